/-
  Small lemmas for all walks of this seat: 'Ext w w2' (nothing that was there has changed), 'Later w' (the worlds that extend w), and a rule for a region that draws its order next to calls that make memory.
  The plain mathematics of layer 49: no program in sight.
  Walks: the small functions of layer 49.
  Walks: simple, Ticks, safe, floor, brake of layer 49.
  Walks: brake, distance of layer 49.
  Walks: moving, Needed, Stop, Ticks of layer 49.
-/
import Derived.WalkKit
import Derived.WalkSpells
import Derived.WalkLawsBesides
import Derived.Deep.QuietTactic
import Derived.BigQuiet
import Derived.Lib.Hide
import Derived.Test.YtjibcnnbclcboaaDoorRows
namespace Go.Proofs.YtjibcnnbclcboaaDoor
open Go.RowKit

/-- Nothing that was there has changed. -/
def Ext (w w' : World) : Prop := Below w.heap.size w w'

theorem Ext.refl (w : World) : Ext w w := Below.refl _ _
theorem Ext.trans {a b c : World} (h : Ext a b) (k : Ext b c) : Ext a c := Below.trans h (Below.mono k h.size)
theorem Ext.drew {a w : World} (h : Ext a w) : Ext a w.drew := Below.drew h
theorem Ext.alloc {a w : World} (h : Ext a w) (o : Obj) : Ext a (w.alloc o) := Below.alloc h h.size o
theorem Ext.setCell {a w : World} (h : Ext a w) {p : Addr} (hp : a.heap.size ≤ p.block) (u : Value) : Ext a (w.setCell p u) := Below.setCell h hp u
theorem Ext.size {a w : World} (h : Ext a w) : a.heap.size ≤ w.heap.size := Below.size h
theorem Ext.cell {a w : World} (h : Ext a w) {p : Addr} (hp : p.block < a.heap.size) : w.cell? p = a.cell? p := Below.cell h hp
theorem Ext.frozen {a w : World} (h : Ext a w) {p : Addr} (hp : p.block < a.heap.size) : w.frozen? p = a.frozen? p := Below.frozen h hp
theorem Ext.of {w w' : World} (h : Below w.heap.size w w') : Ext w w' := h
theorem Ext.out {w w' : World} (h : Ext w w') : Below w.heap.size w w' := h

/-- The worlds that extend w. -/
def Later (w : World) : Type := { w' : World // Ext w w' }
def Later.w {w : World} (x : Later w) : World := x.1
theorem Later.ext {w : World} (x : Later w) : Ext w x.w := x.2
def Later.mk {w : World} (w' : World) (h : Ext w w') : Later w := ⟨w', h⟩
instance {w : World} : Nonempty (Later w) := ⟨⟨w, Ext.refl w⟩⟩
theorem Later.w_mk {w : World} (w' : World) (h : Ext w w') : (Later.mk w' h).w = w' := rfl
/-- A cell of w, in every later world. -/
theorem Later.cell {w : World} {p : Addr} {v : Value} (h : w.cell? p = some v) : ∀ x : Later w, x.w.cell? p = some v := fun x => by
  have hp : p.block < w.heap.size := by
    unfold World.cell? at h
    rcases Nat.lt_or_ge p.block w.heap.size with h' | h'
    · exact h'
    · rw [Array.getElem?_eq_none h'] at h; cases h
  rw [x.ext.cell hp]; exact h

/-- A mark of w, in every later world. -/
theorem Later.frozen {w : World} {p : Addr} {b : Bool} (hp : p.block < w.heap.size) (h : w.frozen? p = b) : ∀ x : Later w, x.w.frozen? p = b := fun x => by
  rw [x.ext.frozen hp]; exact h
/-- All cells of a block of w, in every later world. -/
theorem Later.block {w : World} {b : Nat} {cs : Array Value} {t : TypeId} {fz : Nat × Nat} (h : w.heap[b]? = some (.cells cs t fz)) (i : Nat) {v : Value} (hv : cs[i]? = some v) : ∀ x : Later w, x.w.cell? ⟨b, i, none⟩ = some v :=
  Later.cell (by simp [World.cell?, h, hv])
def Later.self (w : World) : Later w := ⟨w, Ext.refl w⟩

/-- A region that draws its order, whose operations read and whose calls leave what was there as it was. -/
theorem wp_region_later {P : Program} {id : Nat} {Q : Exit → Act → World → Prop} {a : Act} {w : World} {l : List Oper} (hm : P.follows .mixedOrders = true) (hB : Region.lexB .any l.toArray = true)
    (h : wpQuiet P l.toArray (fun w' => ∃ x : Later w, w' = x.w) (fun a' => ∀ w', (∃ x : Later w, w' = x.w) → Q .normal a' w') l a) : (Code.region id l.toArray true).wp P Q a w :=
  wp_region_quiet (C := fun w' => ∃ x : Later w, w' = x.w) hm hB ⟨⟨_, (Ext.refl w).drew⟩, rfl⟩ (by simpa using h)

/-- The same, from a world that is itself a later one. -/
theorem wp_region_later_at {P : Program} {id : Nat} {Q : Exit → Act → World → Prop} {a : Act} {w : World} (y : Later w) {l : List Oper} (hm : P.follows .mixedOrders = true) (hB : Region.lexB .any l.toArray = true)
    (h : wpQuiet P l.toArray (fun w' => ∃ x : Later w, w' = x.w) (fun a' => ∀ w', (∃ x : Later w, w' = x.w) → Q .normal a' w') l a) : (Code.region id l.toArray true).wp P Q a y.w :=
  wp_region_quiet (C := fun w' => ∃ x : Later w, w' = x.w) hm hB ⟨⟨_, y.ext.drew⟩, rfl⟩ (by simpa using h)

/-- A callee's contract, met in a later world. -/
theorem Calls.later {P : Program} {f : FuncId} {args : Array Value} {w : World} {x : Later w} {v : Value}
    (h : Calls P f args x.w fun e w' => e = .returned v ∧ Ext x.w w') : Calls P f args x.w fun e w'' => e = .returned v ∧ ∃ y : Later w, w'' = y.w :=
  h.mono fun _ w' ⟨he, hm⟩ => ⟨he, ⟨w', x.ext.trans hm⟩, rfl⟩
theorem Calls.later_same {P : Program} {f : FuncId} {args : Array Value} {w : World} {x : Later w} {v : Value}
    (h : Calls P f args x.w fun e w' => e = .returned v ∧ x.w = w') : Calls P f args x.w fun e w'' => e = .returned v ∧ ∃ y : Later w, w'' = y.w :=
  h.mono fun _ _ ⟨he, hm⟩ => ⟨he, x, hm.symm⟩

end Go.Proofs.YtjibcnnbclcboaaDoor

namespace Go.Proofs.YtjibcnnbclcboaaDoor

/-- low ≤ n ≤ high. -/
def inR (n lo hi : Int) : Bool := decide (lo ≤ n) && decide (n ≤ hi)
/-- Valid limits. -/
def vld (s a j : Int) : Bool := inR s 1 100000 && inR a 1 100000 && inR j 2 100000
/-- The sum of the positive ones of n - j, n - 2 j, .. -/
def fad (j n : Int) : Int := if n ≤ j then 0 else (n - 1) / j * n - j * ((n - 1) / j) * ((n - 1) / j + 1) / 2
/-- The distance that can be covered in every tick. -/
def smp (s a j : Int) : Int := min (min s a) (j / 2)
/-- A safe state. -/
def saf (s a j v b : Int) : Bool :=
  inR v 0 s && inR b (-a) a && (if 0 < b then decide (v + fad j b ≤ s) else decide (fad j (-b) ≤ v))

theorem inR_iff (n lo hi : Int) : inR n lo hi = true ↔ lo ≤ n ∧ n ≤ hi := by simp [inR]
theorem inR_not (n lo hi : Int) : inR n lo hi = false ↔ ¬ (lo ≤ n ∧ n ≤ hi) := by
  rw [← inR_iff]; simp
theorem vld_iff (s a j : Int) : vld s a j = true ↔ (1 ≤ s ∧ s ≤ 100000) ∧ (1 ≤ a ∧ a ≤ 100000) ∧ (2 ≤ j ∧ j ≤ 100000) := by
  simp [vld, inR_iff, and_assoc]

theorem fad_bounds (j n : Int) (hj : 2 ≤ j) (hn : n ≤ 100000) :
    (¬ n ≤ j → 0 ≤ (n - 1) / j ∧ (n - 1) / j ≤ 50000 ∧ j * ((n - 1) / j) ≤ n - 1) := by
  intro h
  have h1 : 0 ≤ (n - 1) / j := Int.ediv_nonneg (by omega) (by omega)
  have h2 : j * ((n - 1) / j) ≤ n - 1 := Int.mul_ediv_self_le (by omega)
  refine ⟨h1, ?_, h2⟩
  have : 2 * ((n - 1) / j) ≤ j * ((n - 1) / j) := Int.mul_le_mul_of_nonneg_right hj h1
  omega


theorem ediv_sub_one (n j : Int) (hj : 0 < j) : (n - j - 1) / j = (n - 1) / j - 1 := by
  have : n - j - 1 = n - 1 + (-1) * j := by omega
  rw [this, Int.add_mul_ediv_right _ _ (by omega)]; omega

/-- fad, step by step. -/
theorem fad_rec (j n : Int) (hj : 2 ≤ j) : fad j n = if n ≤ j then 0 else (n - j) + fad j (n - j) := by
  by_cases h : n ≤ j
  · simp [fad, h]
  · rw [if_neg h]
    have hq : (n - j - 1) / j = (n - 1) / j - 1 := ediv_sub_one n j (by omega)
    have e1 : fad j n = (n - 1) / j * n - j * ((n - 1) / j) * ((n - 1) / j + 1) / 2 := by simp [fad, h]
    by_cases h2 : n - j ≤ j
    · have e2 : fad j (n - j) = 0 := by simp [fad, h2]
      have hq1 : (n - 1) / j = 1 := by
        have a1 : 1 ≤ (n - 1) / j := by
          have := Int.ediv_le_ediv (show (0 : Int) < j by omega) (show j ≤ n - 1 by omega)
          rwa [Int.ediv_self (by omega)] at this
        have a2 : (n - 1) / j < 2 := Int.ediv_lt_of_lt_mul (by omega) (by omega)
        omega
      rw [e1, e2, hq1]
      have : j * 1 * (1 + 1) / 2 = j := by
        have : j * 1 * (1 + 1) = j * 2 := by omega
        rw [this]; omega
      rw [this]; omega
    · have e2 : fad j (n - j) = (n - j - 1) / j * (n - j) - j * ((n - j - 1) / j) * ((n - j - 1) / j + 1) / 2 := by simp [fad, h2]
      rw [e1, e2, hq]
      generalize (n - 1) / j = q
      have hodd : (q * (q + 1)) % 2 = 0 := by
        have h' : q % 2 = 0 ∨ q % 2 = 1 := by omega
        rcases h' with h | h
        · rw [Int.mul_emod, h]; simp
        · rw [Int.mul_emod, Int.add_emod, h]; decide
      obtain ⟨t, ht⟩ : ∃ t, q * (q + 1) = 2 * t := ⟨q * (q + 1) / 2, by omega⟩
      have e3 : j * q * (q + 1) = 2 * (j * t) := by rw [Int.mul_assoc, ht, Int.mul_left_comm]
      have e4 : j * (q - 1) * (q - 1 + 1) = 2 * (j * (t - q)) := by
        have : (q - 1) * (q - 1 + 1) = 2 * (t - q) := by
          have : (q - 1) * (q - 1 + 1) = q * (q + 1) - 2 * q := by
            have : q - 1 + 1 = q := by omega
            rw [this, Int.sub_mul, Int.mul_add]; omega
          omega
        rw [Int.mul_assoc, this, Int.mul_left_comm]
      have e5 : 2 * (j * t) / 2 = j * t := by omega
      have e6 : 2 * (j * (t - q)) / 2 = j * (t - q) := by omega
      rw [e3, e4, e5, e6]
      have e7 : (q - 1) * (n - j) = q * n - q * j - n + j := by rw [Int.sub_mul, Int.mul_sub]; omega
      have e8 : j * (t - q) = j * t - q * j := by rw [Int.mul_sub, Int.mul_comm j q]
      omega

theorem fad_zero (j n : Int) (h : n ≤ j) : fad j n = 0 := by simp [fad, h]

theorem fad_mono_nonneg (j : Int) (hj : 2 ≤ j) : ∀ (k : Nat) (n m : Int), m.toNat ≤ k → n ≤ m → 0 ≤ fad j n ∧ fad j n ≤ fad j m := by
  intro k
  induction k with
  | zero =>
    intro n m hm hnm
    rw [fad_zero j n (by omega), fad_zero j m (by omega)]; omega
  | succ k ih =>
    intro n m hm hnm
    rw [fad_rec j n hj, fad_rec j m hj]
    by_cases h1 : m ≤ j
    · rw [if_pos h1, if_pos (by omega)]; omega
    · rw [if_neg h1]
      by_cases h2 : n ≤ j
      · rw [if_pos h2]
        have := ih (m - j) (m - j) (by omega) (by omega)
        omega
      · rw [if_neg h2]
        have := ih (n - j) (m - j) (by omega) (by omega)
        omega
theorem fad_mono (j n m : Int) (hj : 2 ≤ j) (h : n ≤ m) : fad j n ≤ fad j m := (fad_mono_nonneg j hj _ n m (Nat.le_refl _) h).2
theorem fad_nonneg (j n : Int) (hj : 2 ≤ j) : 0 ≤ fad j n := (fad_mono_nonneg j hj _ n n (Nat.le_refl _) (Int.le_refl _)).1

/-- The least of lo, lo + 1, .. (k of them) with P; lo + k if there is none. -/
def lst (P : Int → Bool) (lo : Int) : Nat → Int
  | 0 => lo
  | k + 1 => if P lo then lo else lst P (lo + 1) k

theorem lst_spec (P : Int → Bool) (hm : ∀ x y, P x = true → x ≤ y → P y = true) : ∀ (k : Nat) (lo : Int),
    lo ≤ lst P lo k ∧ lst P lo k ≤ lo + k ∧ (∀ x, lo ≤ x → x < lo + k → (P x = true ↔ lst P lo k ≤ x)) := by
  intro k
  induction k with
  | zero => intro lo; simp only [lst]; exact ⟨by omega, by omega, fun x h1 h2 => by omega⟩
  | succ k ih =>
    intro lo
    simp only [lst]
    by_cases h : P lo = true
    · rw [if_pos h]
      exact ⟨by omega, by omega, fun x h1 h2 => ⟨fun _ => h1, fun _ => hm lo x h h1⟩⟩
    · rw [if_neg h]
      obtain ⟨a1, a2, a3⟩ := ih (lo + 1)
      refine ⟨by omega, by omega, fun x h1 h2 => ?_⟩
      by_cases hx : x = lo
      · subst hx; exact ⟨fun h' => absurd h' h, fun h' => by omega⟩
      · exact a3 x (by omega) (by omega)

/-- May one go on with the acceleration x? -/
def okA (j v x : Int) : Bool := decide (fad j (-x) ≤ v + x)
theorem okA_mono (j v : Int) (hj : 2 ≤ j) : ∀ x y, okA j v x = true → x ≤ y → okA j v y = true := by
  intro x y h hxy
  simp only [okA, decide_eq_true_eq] at *
  have := fad_mono j (-y) (-x) hj (by omega)
  omega
/-- The next acceleration while braking. -/
def brk (a j v b : Int) : Int := lst (okA j v) (max (-a) (b - j)) (min a (b + j) - max (-a) (b - j)).toNat

/-- What brake's walk asks. -/
theorem brk_walk (a j v b : Int) (hj : 2 ≤ j) (b1 : -a ≤ b) (b2 : b ≤ a) :
    max (-a) (b - j) ≤ brk a j v b ∧ brk a j v b ≤ min a (b + j) ∧
    (∀ x, max (-a) (b - j) ≤ x → x < min a (b + j) → (fad j (-x) ≤ v + x ↔ brk a j v b ≤ x)) := by
  obtain ⟨h1, h2, h3⟩ := lst_spec (okA j v) (okA_mono j v hj) (min a (b + j) - max (-a) (b - j)).toNat (max (-a) (b - j))
  refine ⟨h1, ?_, fun x hx1 hx2 => ?_⟩
  · unfold brk; omega
  · have := h3 x hx1 (by omega)
    simp only [okA, decide_eq_true_eq] at this
    exact this

theorem saf_iff (s a j v b : Int) : saf s a j v b = true ↔ (0 ≤ v ∧ v ≤ s) ∧ (-a ≤ b ∧ b ≤ a) ∧ (if 0 < b then v + fad j b ≤ s else fad j (-b) ≤ v) := by
  simp only [saf, Bool.and_eq_true, inR_iff, and_assoc]
  by_cases h : 0 < b <;> simp [h]

/-- Braking from a safe state. -/
theorem brk_props (s a j v b : Int) (hv : vld s a j = true) (hs : saf s a j v b = true) :
    saf s a j (v + brk a j v b) (brk a j v b) = true ∧ (0 < brk a j v b → brk a j v b = b - j) ∧ (b ≤ 0 → brk a j v b ≤ 0) ∧ (b ≤ 0 → 1 ≤ v → brk a j v b ≤ -1) ∧ (b ≤ 0 → v = 0 → brk a j v b = 0) := by
  obtain ⟨⟨s1, s2⟩, ⟨a1, a2⟩, ⟨j1, j2⟩⟩ := (vld_iff s a j).1 hv
  obtain ⟨⟨v1, v2⟩, ⟨b1, b2⟩, h3⟩ := (saf_iff s a j v b).1 hs
  obtain ⟨c1, c2, c3⟩ := brk_walk a j v b j1 b1 b2
  generalize hc : brk a j v b = c at *
  -- every x that is not negative will do
  have hpos : ∀ x, 0 ≤ x → fad j (-x) ≤ v + x := fun x hx => by rw [fad_zero j (-x) (by omega)]; omega
  have hle : ∀ x, max (-a) (b - j) ≤ x → x ≤ min a (b + j) → fad j (-x) ≤ v + x → c ≤ x := fun x x1 x2 hx => by
    by_cases hxl : x < min a (b + j)
    · exact (c3 x x1 hxl).1 hx
    · omega
  -- there is one that will do, not above max 0 (b - j)
  have hsome : fad j (-c) ≤ v + c := by
    by_cases hcl : c < min a (b + j)
    · exact (c3 c c1 hcl).2 (Int.le_refl _)
    · have hcm : c = min a (b + j) := by omega
      by_cases hc0 : 0 ≤ c
      · exact hpos c hc0
      · have hb : b + j < 0 := by omega
        have hcb : c = b + j := by omega
        rw [if_neg (by omega)] at h3
        rw [fad_rec j (-b) j1, if_neg (by omega)] at h3
        have : -b - j = -c := by omega
        rw [this] at h3
        omega
  have hneg : b ≤ 0 → c ≤ 0 := fun hb => by
    by_cases h : b + j < 0
    · omega
    · exact hle 0 (by omega) (by omega) (hpos 0 (by omega))
  have hposc : 0 < c → c = b - j := fun h => by
    by_cases hb : b - j ≤ 0
    · by_cases hb0 : b ≤ 0
      · have := hneg hb0; omega
      · have := hle 0 (by omega) (by omega) (hpos 0 (by omega)); omega
    · have := hle (b - j) (by omega) (by omega) (hpos _ (by omega)); omega
  refine ⟨?_, hposc, hneg, ?_, ?_⟩
  · rw [saf_iff]
    have f0 := fad_nonneg j (-c) j1
    refine ⟨⟨by omega, ?_⟩, ⟨by omega, by omega⟩, ?_⟩
    · by_cases h : 0 < c
      · have e := hposc h
        rw [if_pos (by omega)] at h3
        have f1 := fad_nonneg j (b - j) j1
        rw [fad_rec j b j1, if_neg (by omega)] at h3
        omega
      · omega
    · by_cases h : 0 < c
      · rw [if_pos h]
        have e := hposc h
        rw [if_pos (by omega)] at h3
        rw [fad_rec j b j1, if_neg (by omega)] at h3
        rw [e]; omega
      · rw [if_neg h]; omega
  · intro hb hv1
    by_cases hbj : b + j < -1
    · omega
    · by_cases hbj2 : b + j < 0
      · have := hle (-1) (by omega) (by omega) (by rw [fad_zero j _ (by omega)]; omega); omega
      · exact hle (-1) (by omega) (by omega) (by rw [fad_zero j _ (by omega)]; omega)
  · intro hb hv0
    have h0 := hneg hb
    have f0 := fad_nonneg j (-c) j1
    omega

/-- How long braking may take. -/
def mu (s v b : Int) : Nat := if 0 < b then (b + s + 2).toNat else if v = 0 ∧ b = 0 then 0 else (v + 1).toNat

theorem mu_lt (s a j v b : Int) (hv : vld s a j = true) (hs : saf s a j v b = true) (hne : ¬ (v = 0 ∧ b = 0)) : mu s (v + brk a j v b) (brk a j v b) < mu s v b := by
  obtain ⟨p1, p2, p3, p4, p5⟩ := brk_props s a j v b hv hs
  obtain ⟨⟨v1, v2⟩, ⟨b1, b2⟩, h3⟩ := (saf_iff s a j v b).1 hs
  obtain ⟨⟨v1', v2'⟩, _, _⟩ := (saf_iff _ _ _ _ _).1 p1
  obtain ⟨⟨s1, s2⟩, ⟨a1, a2⟩, ⟨j1, j2⟩⟩ := (vld_iff s a j).1 hv
  generalize brk a j v b = c at *
  unfold mu
  by_cases hb : 0 < b
  · rw [if_pos hb]
    by_cases hc : 0 < c
    · rw [if_pos hc]; have := p2 hc; omega
    · rw [if_neg hc]; split <;> omega
  · have := p3 (by omega)
    rw [if_neg hb, if_neg hne, if_neg (by omega)]
    by_cases hv1 : 1 ≤ v
    · have := p4 (by omega) hv1
      split <;> omega
    · have := p5 (by omega) (by omega)
      rw [if_pos (by omega)]; omega

/-- The speeds while braking. -/
def brakes (a j : Int) : Nat → Int → Int → List Int
  | 0, _, _ => []
  | k + 1, v, b => if v = 0 ∧ b = 0 then [] else (v + brk a j v b) :: brakes a j k (v + brk a j v b) (brk a j v b)


theorem brakes_fuel (s a j : Int) (hv : vld s a j = true) : ∀ (n : Nat) (v b : Int), saf s a j v b = true → mu s v b ≤ n → ∀ k, n ≤ k → brakes a j k v b = brakes a j n v b := by
  intro n
  induction n with
  | zero =>
    intro v b hs hm k hk
    have h0 : v = 0 ∧ b = 0 := Classical.byContradiction fun h => by
      have := mu_lt s a j v b hv hs h; omega
    cases k with
    | zero => rfl
    | succ k => simp [brakes, h0]
  | succ n ih =>
    intro v b hs hm k hk
    obtain ⟨k, rfl⟩ : ∃ k', k = k' + 1 := ⟨k - 1, by omega⟩
    simp only [brakes]
    by_cases h0 : v = 0 ∧ b = 0
    · rw [if_pos h0, if_pos h0]
    · rw [if_neg h0, if_neg h0]
      have := mu_lt s a j v b hv hs h0
      rw [ih _ _ (brk_props s a j v b hv hs).1 (by omega) k (by omega)]

/-- The speeds while braking, all of them. -/
def blist (s a j v b : Int) : List Int := brakes a j (mu s v b) v b

theorem blist_rest (s a j : Int) : blist s a j 0 0 = [] := by simp [blist, mu, brakes]
theorem blist_cons (s a j v b : Int) (hv : vld s a j = true) (hs : saf s a j v b = true) (h0 : ¬ (v = 0 ∧ b = 0)) :
    blist s a j v b = (v + brk a j v b) :: blist s a j (v + brk a j v b) (brk a j v b) := by
  have hm := mu_lt s a j v b hv hs h0
  obtain ⟨n, hn⟩ : ∃ n, mu s v b = n + 1 := ⟨mu s v b - 1, by omega⟩
  unfold blist
  rw [hn]
  simp only [brakes]
  rw [if_neg h0]
  rw [brakes_fuel s a j hv (mu s (v + brk a j v b) (brk a j v b)) _ _ (brk_props s a j v b hv hs).1 (Nat.le_refl _) n (by omega)]

/-- Their sum. -/
def dsum (s a j v b : Int) : Int := (blist s a j v b).sum

theorem dsum_cons (s a j v b : Int) (hv : vld s a j = true) (hs : saf s a j v b = true) (h0 : ¬ (v = 0 ∧ b = 0)) :
    dsum s a j v b = (v + brk a j v b) + dsum s a j (v + brk a j v b) (brk a j v b) := by
  unfold dsum; rw [blist_cons s a j v b hv hs h0, List.sum_cons]
theorem dsum_rest (s a j : Int) : dsum s a j 0 0 = 0 := by unfold dsum; rw [blist_rest]; rfl

theorem mu_le (s a j v b : Int) (hv : vld s a j = true) (hs : saf s a j v b = true) : mu s v b ≤ 200002 := by
  obtain ⟨⟨v1, v2⟩, ⟨b1, b2⟩, h3⟩ := (saf_iff s a j v b).1 hs
  obtain ⟨⟨s1, s2⟩, ⟨a1, a2⟩, ⟨j1, j2⟩⟩ := (vld_iff s a j).1 hv
  unfold mu; split
  · omega
  · split <;> omega

theorem dsum_bound (s a j : Int) (hv : vld s a j = true) : ∀ (n : Nat) (v b : Int), saf s a j v b = true → mu s v b ≤ n → 0 ≤ dsum s a j v b ∧ dsum s a j v b ≤ 100000 * n := by
  intro n
  induction n with
  | zero =>
    intro v b hs hm
    have h0 : v = 0 ∧ b = 0 := Classical.byContradiction fun h => by
      have := mu_lt s a j v b hv hs h; omega
    obtain ⟨rfl, rfl⟩ := h0
    rw [dsum_rest]; omega
  | succ n ih =>
    intro v b hs hm
    by_cases h0 : v = 0 ∧ b = 0
    · obtain ⟨rfl, rfl⟩ := h0
      rw [dsum_rest]; omega
    · have hlt := mu_lt s a j v b hv hs h0
      have hs' := (brk_props s a j v b hv hs).1
      have := ih _ _ hs' (by omega)
      rw [dsum_cons s a j v b hv hs h0]
      obtain ⟨⟨v1, v2⟩, _, _⟩ := (saf_iff _ _ _ _ _).1 hs'
      obtain ⟨⟨s1, s2⟩, _, _⟩ := (vld_iff s a j).1 hv
      omega
theorem dsum_le (s a j v b : Int) (hv : vld s a j = true) (hs : saf s a j v b = true) : 0 ≤ dsum s a j v b ∧ dsum s a j v b ≤ 20000200000 := by
  have h1 := dsum_bound s a j hv _ v b hs (Nat.le_refl _)
  have h2 := mu_le s a j v b hv hs
  omega


theorem blist_len (s a j v b : Int) : (blist s a j v b).length ≤ mu s v b := by
  have : ∀ (k : Nat) (v b : Int), (brakes a j k v b).length ≤ k := by
    intro k
    induction k with
    | zero => intro v b; simp [brakes]
    | succ k ih =>
      intro v b
      simp only [brakes]
      split
      · simp
      · simp only [List.length_cons]; have := ih (v + brk a j v b) (brk a j v b); omega
  exact this _ v b

/-- The distances of Stop. -/
def stops (s a j v b : Int) : List Int := (blist s a j v b).filter (fun x => decide (0 < x))
theorem stops_rest (s a j : Int) : stops s a j 0 0 = [] := by simp [stops, blist_rest]
theorem stops_cons (s a j v b : Int) (hv : vld s a j = true) (hs : saf s a j v b = true) (h0 : ¬ (v = 0 ∧ b = 0)) :
    stops s a j v b = if 0 < v + brk a j v b then (v + brk a j v b) :: stops s a j (v + brk a j v b) (brk a j v b) else stops s a j (v + brk a j v b) (brk a j v b) := by
  unfold stops; rw [blist_cons s a j v b hv hs h0, List.filter_cons]; simp
theorem stops_len (s a j v b : Int) (hv : vld s a j = true) (hs : saf s a j v b = true) : (stops s a j v b).length ≤ 200002 := by
  have h1 := List.length_filter_le (fun x : Int => decide (0 < x)) (blist s a j v b)
  have h2 := blist_len s a j v b
  have h3 := mu_le s a j v b hv hs
  unfold stops; omega

/-- May one brake? -/
def mvg (s a j p q : Int) : Bool := vld s a j && inR p 0 s && inR q 0 s && saf s a j q (q - p)
theorem mvg_iff (s a j p q : Int) : mvg s a j p q = true ↔ vld s a j = true ∧ (0 ≤ p ∧ p ≤ s) ∧ (0 ≤ q ∧ q ≤ s) ∧ saf s a j q (q - p) = true := by
  simp only [mvg, Bool.and_eq_true, inR_iff, and_assoc]

end Go.Proofs.YtjibcnnbclcboaaDoor

namespace Go.Proofs.YtjibcnnbclcboaaDoor
open Go.RowKit
set_option maxRecDepth 8000

theorem ret_bool {a b : Bool} (h : a = b) : Ending.returned (.bool a) = .returned (.bool b) := by rw [h]
theorem ret_int {k : IntKind} {a b : Int} (h : a = b) : Ending.returned (.int k a) = .returned (.int k b) := by rw [h]

set_option maxHeartbeats 400000 in
theorem within_any (n lo hi : Int) (w : World) :
    Calls Tryd.prog 85 #[.int .i64 n, .int .i64 lo, .int .i64 hi] w fun e w' => e = .returned (.bool (inR n lo hi)) ∧ w = w' := by
  by_cases h1 : lo ≤ n
  · by_cases h2 : n ≤ hi
    · have e : inR n lo hi = true := by simp [inR, h1, h2]
      have E := Lib.hid e; clear e
      go_enter Tryd.func85, Tryd.ntmps85
      go_wp2
      go_ret
      exact ⟨ret_bool (by simp [E.out]), rfl⟩
    · have e : inR n lo hi = false := by simp [inR, h2]
      have E := Lib.hid e; clear e
      have h2' : decide (n ≤ hi) = false := by simpa using h2
      go_enter Tryd.func85, Tryd.ntmps85
      go_wp2
      go_ret
      exact ⟨ret_bool (by simp [E.out]), rfl⟩
  · have e : inR n lo hi = false := by simp [inR, h1]
    have E := Lib.hid e; clear e
    have h1' : decide (lo ≤ n) = false := by simpa using h1
    go_enter Tryd.func85, Tryd.ntmps85
    go_wp2
    go_ret
    exact ⟨ret_bool (by simp [E.out]), rfl⟩


/-- The limits as a value. -/
abbrev Lm (s a j : Int) : Value := .agg #[.int .i64 s, .int .i64 a, .int .i64 j]

set_option maxHeartbeats 400000 in
theorem valid_yes (s a j : Int) (w : World) (h : vld s a j = true) :
    Calls Tryd.prog 69 #[Lm s a j] w fun e w' => e = .returned (.int .i64 0) ∧ Ext w w' := by
  simp only [vld, Bool.and_eq_true] at h
  obtain ⟨⟨h1, h2⟩, h3⟩ := h
  go_enter Tryd.func69, Tryd.ntmps69
  go_wp2_with ((go_at_call 85; refine (within_any _ _ _ _).mono ?_; rintro e w' ⟨rfl, rfl⟩))
  go_ret
  exact ⟨rfl, (Ext.refl w).alloc _⟩

set_option maxHeartbeats 400000 in
theorem valid_no (s a j : Int) (w : World) (h : vld s a j = false) :
    Calls Tryd.prog 69 #[Lm s a j] w fun e w' => e = .returned (.int .i64 1) ∧ Ext w w' := by
  simp only [vld] at h
  by_cases h1 : inR s 1 100000 = true
  · by_cases h2 : inR a 1 100000 = true
    · have h3 : inR j 2 100000 = false := by simpa [h1, h2] using h
      clear h
      go_enter Tryd.func69, Tryd.ntmps69
      go_wp2_with ((go_at_call 85; refine (within_any _ _ _ _).mono ?_; rintro e w' ⟨rfl, rfl⟩))
      go_ret
      exact ⟨rfl, (Ext.refl w).alloc _⟩
    · have h2' : inR a 1 100000 = false := by simpa using h2
      clear h h2
      go_enter Tryd.func69, Tryd.ntmps69
      go_wp2_with ((go_at_call 85; refine (within_any _ _ _ _).mono ?_; rintro e w' ⟨rfl, rfl⟩))
      go_ret
      exact ⟨rfl, (Ext.refl w).alloc _⟩
  · have h1' : inR s 1 100000 = false := by simpa using h1
    clear h h1
    go_enter Tryd.func69, Tryd.ntmps69
    go_wp2_with ((go_at_call 85; refine (within_any _ _ _ _).mono ?_; rintro e w' ⟨rfl, rfl⟩))
    go_ret
    exact ⟨rfl, (Ext.refl w).alloc _⟩

/-- What Valid returns. -/
def vcode (s a j : Int) : Int := if vld s a j then 0 else 1
theorem valid_any (s a j : Int) (w : World) :
    Calls Tryd.prog 69 #[Lm s a j] w fun e w' => e = .returned (.int .i64 (vcode s a j)) ∧ Ext w w' := by
  cases h : vld s a j
  · have := valid_no s a j w h; simpa [vcode, h] using this
  · have := valid_yes s a j w h; simpa [vcode, h] using this
set_option maxHeartbeats 400000 in
theorem fading_any (s a j n : Int) (w : World) (hj : 2 ≤ j) (hj' : j ≤ 100000) (hn : n ≤ 100000) :
    Calls Tryd.prog 89 #[Lm s a j, .int .i64 n] w fun e w' => e = .returned (.int .i64 (fad j n)) ∧ Ext w w' := by
  by_cases h : n ≤ j
  · have e : fad j n = 0 := by simp [fad, h]
    rw [e]; clear e
    go_enter Tryd.func89, Tryd.ntmps89
    go_wp2
    go_ret
    exact ⟨rfl, (Ext.refl w).alloc _⟩
  · obtain ⟨b1, b2, b3⟩ := fad_bounds j n hj hn h
    have e : fad j n = (n - 1) / j * n - j * ((n - 1) / j) * ((n - 1) / j + 1) / 2 := by simp [fad, h]
    have E := Lib.hid e; clear e
    have c1 : 0 ≤ (n - 1) / j * n := Int.mul_nonneg b1 (by omega)
    have c2 : (n - 1) / j * n ≤ 50000 * 100000 := Int.mul_le_mul b2 hn (by omega) (by omega)
    have c3 : 0 ≤ j * ((n - 1) / j) := Int.mul_nonneg (by omega) b1
    have c4 : 0 ≤ j * ((n - 1) / j) * ((n - 1) / j + 1) := Int.mul_nonneg c3 (by omega)
    have c5 : j * ((n - 1) / j) * ((n - 1) / j + 1) ≤ 100000 * 50001 := Int.mul_le_mul (by omega) (by omega) (by omega) (by omega)
    go_enter Tryd.func89, Tryd.ntmps89
    go_wp2
    go_ret
    exact ⟨ret_int (by rw [E.out]), (Ext.refl w).alloc _⟩

end Go.Proofs.YtjibcnnbclcboaaDoor

namespace Go.Proofs.YtjibcnnbclcboaaDoor
open Go.RowKit
set_option maxRecDepth 8000

theorem fad_le (j n : Int) (hj : 2 ≤ j) (hn : n ≤ 100000) : fad j n ≤ 5000000000 ∧ -5000100000 ≤ fad j n := by
  unfold fad
  split
  · omega
  · rename_i h
    obtain ⟨b1, b2, b3⟩ := fad_bounds j n hj hn h
    have c1 : 0 ≤ (n - 1) / j * n := Int.mul_nonneg b1 (by omega)
    have c2 : (n - 1) / j * n ≤ 50000 * 100000 := Int.mul_le_mul b2 hn (by omega) (by omega)
    have c3 : 0 ≤ j * ((n - 1) / j) := Int.mul_nonneg (by omega) b1
    have c4 : 0 ≤ j * ((n - 1) / j) * ((n - 1) / j + 1) := Int.mul_nonneg c3 (by omega)
    have c5 : j * ((n - 1) / j) * ((n - 1) / j + 1) ≤ 100000 * 50001 := Int.mul_le_mul (by omega) (by omega) (by omega) (by omega)
    omega


theorem smp_bounds (s a j : Int) (hs : 1 ≤ s) (ha : 1 ≤ a) (hj : 2 ≤ j) : 1 ≤ smp s a j ∧ smp s a j ≤ s ∧ smp s a j ≤ a ∧ 2 * smp s a j ≤ j := by
  unfold smp; omega

set_option maxHeartbeats 400000 in
theorem simple_any (s a j : Int) (w : World) (hj : 2 ≤ j) (hj' : j ≤ 100000) :
    Calls Tryd.prog 59 #[Lm s a j] w fun e w' => e = .returned (.int .i64 (smp s a j)) ∧ Ext w w' := by
  go_enter Tryd.func59, Tryd.ntmps59
  go_wp2
  all_goals go_ret
  all_goals refine ⟨ret_int ?_, (Ext.refl w).alloc _⟩
  all_goals (unfold smp; split at * <;> omega)

theorem tdiv_neg_floor (a b : Int) (hb : 0 < b) (ha : a < 0) : (a.tmod b < 0 → a.tdiv b - 1 = a / b) ∧ (¬ a.tmod b < 0 → a.tdiv b = a / b) := by
  have h1 : a.tdiv b = -((-a) / b) := by
    rw [← Int.tdiv_eq_ediv_of_nonneg (by omega), Int.neg_tdiv]; omega
  have h2 : a.tmod b = -((-a) % b) := by
    rw [← Int.tmod_eq_emod_of_nonneg (by omega), Int.neg_tmod]; omega
  have h3 := Int.mul_ediv_add_emod (-a) b
  have h4 := Int.emod_nonneg (-a) (show b ≠ 0 by omega)
  have h5 := Int.emod_lt_of_pos (-a) hb
  have key : ∀ q : Int, b * q ≤ a → a < b * q + b → a / b = q := by
    intro q hq1 hq2
    have : a / b = (a - b * q + b * q) / b := by congr 1; omega
    rw [this, Int.add_mul_ediv_left _ _ (by omega), Int.ediv_eq_zero_of_lt (by omega) (by omega)]; omega
  constructor
  · intro h
    rw [key (-((-a) / b) - 1) (by rw [Int.mul_sub, Int.mul_neg]; omega) (by rw [Int.mul_sub, Int.mul_neg]; omega)]; omega
  · intro h
    rw [key (-((-a) / b)) (by rw [Int.mul_neg]; omega) (by rw [Int.mul_neg]; omega)]; omega

set_option maxHeartbeats 400000 in
theorem floor_pos (a b : Int) (w : World) (hb : 0 < b) (ha : 0 ≤ a) (ha' : a ≤ 4611686018427387904) (hb' : b ≤ 4611686018427387904) :
    Calls Tryd.prog 87 #[.int .i64 a, .int .i64 b] w fun e w' => e = .returned (.int .i64 (a / b)) ∧ w = w' := by
  have h1 := Int.emod_nonneg a (show b ≠ 0 by omega)
  go_enter Tryd.func87, Tryd.ntmps87
  go_wp2
  go_ret
  exact ⟨rfl, rfl⟩


theorem tdiv_neg_bounds (a b : Int) (hb : 0 < b) (ha : a < 0) : a ≤ a.tdiv b ∧ a.tdiv b ≤ 0 := by
  have h1 : a.tdiv b = -((-a) / b) := by
    rw [← Int.tdiv_eq_ediv_of_nonneg (by omega), Int.neg_tdiv]; omega
  have h2 := Int.ediv_le_self (a := -a) b (by omega)
  have h3 : 0 ≤ (-a) / b := Int.ediv_nonneg (by omega) (by omega)
  omega

set_option maxHeartbeats 400000 in
theorem floor_neg (a b : Int) (w : World) (hb : 0 < b) (ha : a < 0) (ha' : -4611686018427387904 ≤ a) (hb' : b ≤ 4611686018427387904) :
    Calls Tryd.prog 87 #[.int .i64 a, .int .i64 b] w fun e w' => e = .returned (.int .i64 (a / b)) ∧ w = w' := by
  obtain ⟨h1, h2⟩ := tdiv_neg_bounds a b hb ha
  go_enter Tryd.func87, Tryd.ntmps87
  go_wp2
  · go_ret
    exact ⟨ret_int ((tdiv_neg_floor a b hb ha).1 (by assumption)), rfl⟩
  · go_ret
    exact ⟨ret_int ((tdiv_neg_floor a b hb ha).2 (by omega)), rfl⟩

theorem floor_any (a b : Int) (w : World) (hb : 0 < b) (ha : -4611686018427387904 ≤ a) (ha' : a ≤ 4611686018427387904) (hb' : b ≤ 4611686018427387904) :
    Calls Tryd.prog 87 #[.int .i64 a, .int .i64 b] w fun e w' => e = .returned (.int .i64 (a / b)) ∧ w = w' := by
  by_cases h : a < 0
  · exact floor_neg a b w hb h ha hb'
  · exact floor_pos a b w hb (by omega) ha' hb'


/-- The boxes of limits and a state, and their cells in all later worlds. -/
theorem two_boxes {w : World} (s a j v b : Int) (t1 t2 : TypeId) : ∃ W : World, (w.alloc (.cells #[.int .i64 s, .int .i64 a, .int .i64 j] t1)).alloc (.cells #[.int .i64 v, .int .i64 b] t2) = W ∧ Ext w W ∧ W.heap.size = w.heap.size + 2 ∧
    (∀ x : Later W, x.w.cell? ⟨w.heap.size, 0, none⟩ = some (.int .i64 s)) ∧ (∀ x : Later W, x.w.cell? ⟨w.heap.size, 1, none⟩ = some (.int .i64 a)) ∧ (∀ x : Later W, x.w.cell? ⟨w.heap.size, 2, none⟩ = some (.int .i64 j)) ∧
    (∀ x : Later W, x.w.cell? ⟨w.heap.size + 1, 0, none⟩ = some (.int .i64 v)) ∧ (∀ x : Later W, x.w.cell? ⟨w.heap.size + 1, 1, none⟩ = some (.int .i64 b)) :=
  ⟨_, rfl, ((Ext.refl w).alloc _).alloc _, by simp, Later.cell (by simp [go_sem]), Later.cell (by simp [go_sem]), Later.cell (by simp [go_sem]), Later.cell (by simp [go_sem]), Later.cell (by simp [go_sem])⟩

set_option maxHeartbeats 1000000 in
theorem safe_any (s a j v b : Int) (w : World) (hv : vld s a j = true) :
    Calls Tryd.prog 88 #[Lm s a j, .agg #[.int .i64 v, .int .i64 b]] w fun e w' => e = .returned (.bool (saf s a j v b)) ∧ Ext w w' := by
  obtain ⟨⟨s1, s2⟩, ⟨a1, a2⟩, ⟨j1, j2⟩⟩ := (vld_iff s a j).1 hv
  clear hv
  by_cases h1 : inR v 0 s = true
  · obtain ⟨v1, v2⟩ := (inR_iff _ _ _).1 h1
    by_cases h2 : inR b (-a) a = true
    · obtain ⟨b1, b2⟩ := (inR_iff _ _ _).1 h2
      by_cases h3 : 0 < b
      · have e : saf s a j v b = decide (v + fad j b ≤ s) := by simp [saf, h1, h2, h3]
        rw [e]; clear e
        obtain ⟨f1, f2⟩ := fad_le j b j1 (by omega)
        go_enter Tryd.func88, Tryd.ntmps88
        go_wp2_with ((go_at_call 85; refine (within_any _ _ _ _).mono ?_; rintro e w' ⟨rfl, rfl⟩))
        obtain ⟨W, hW, hE, hz, k1, k2, k3, k4, k5⟩ := two_boxes (w := w) s a j v b 54 144
        rw [hW]; clear hW
        refine wp_region_later (by kernel_rfl) (by kernel_rfl) ?_
        repeat (go_big_quiet_step ((go_at_call 89; exact Calls.later (fading_any _ _ _ _ _ (by omega) (by omega) (by omega)))))
        refine wpQuiet_nil ?_
        rintro _ ⟨x, rfl⟩
        go_wp2
        go_ret
        exact ⟨rfl, hE.trans x.ext⟩
      · have e : saf s a j v b = decide (fad j (-b) ≤ v) := by simp [saf, h1, h2, h3]
        rw [e]; clear e
        obtain ⟨f1, f2⟩ := fad_le j (-b) j1 (by omega)
        go_enter Tryd.func88, Tryd.ntmps88
        go_wp2_with ((go_at_call 85; refine (within_any _ _ _ _).mono ?_; rintro e w' ⟨rfl, rfl⟩))
        obtain ⟨W, hW, hE, hz, k1, k2, k3, k4, k5⟩ := two_boxes (w := w) s a j v b 54 144
        rw [hW]; clear hW
        refine wp_region_later (by kernel_rfl) (by kernel_rfl) ?_
        repeat (go_big_quiet_step ((go_at_call 89; exact Calls.later (fading_any _ _ _ _ _ (by omega) (by omega) (by omega)))))
        refine wpQuiet_nil ?_
        rintro _ ⟨x, rfl⟩
        go_wp2
        go_ret
        exact ⟨rfl, hE.trans x.ext⟩
    · have h2' : inR b (-a) a = false := by simpa using h2
      have e : saf s a j v b = false := by simp [saf, h2']
      rw [e]; clear e h2
      go_enter Tryd.func88, Tryd.ntmps88
      go_wp2_with ((go_at_call 85; refine (within_any _ _ _ _).mono ?_; rintro e w' ⟨rfl, rfl⟩))
      go_ret
      exact ⟨rfl, ((Ext.refl w).alloc _).alloc _⟩
  · have h1' : inR v 0 s = false := by simpa using h1
    have e : saf s a j v b = false := by simp [saf, h1']
    rw [e]; clear e h1
    go_enter Tryd.func88, Tryd.ntmps88
    go_wp2_with ((go_at_call 85; refine (within_any _ _ _ _).mono ?_; rintro e w' ⟨rfl, rfl⟩))
    go_ret
    exact ⟨rfl, ((Ext.refl w).alloc _).alloc _⟩

end Go.Proofs.YtjibcnnbclcboaaDoor

namespace Go.Proofs.YtjibcnnbclcboaaDoor
open Go.RowKit
set_option maxRecDepth 8000


/-- The boxes of brake. -/
theorem three_boxes {w : World} (s a j v b : Int) (t1 t2 : TypeId) : ∃ W : World, ((w.alloc (.cells #[.int .i64 s, .int .i64 a, .int .i64 j] t1)).alloc (.cells #[.int .i64 v, .int .i64 b] t2)).alloc (.cells #[.int .i64 0, .int .i64 0] t2) = W ∧ Ext w W ∧ W.heap.size = w.heap.size + 3 ∧
    (∀ x : Later W, x.w.cell? ⟨w.heap.size, 0, none⟩ = some (.int .i64 s)) ∧ (∀ x : Later W, x.w.cell? ⟨w.heap.size, 1, none⟩ = some (.int .i64 a)) ∧ (∀ x : Later W, x.w.cell? ⟨w.heap.size, 2, none⟩ = some (.int .i64 j)) ∧
    (∀ x : Later W, x.w.cell? ⟨w.heap.size + 1, 0, none⟩ = some (.int .i64 v)) ∧ (∀ x : Later W, x.w.cell? ⟨w.heap.size + 1, 1, none⟩ = some (.int .i64 b)) ∧
    (∀ x : Later W, x.w.cell? ⟨w.heap.size + 1 + 1, 0, none⟩ = some (.int .i64 0)) ∧ (∀ x : Later W, x.w.cell? ⟨w.heap.size + 1 + 1, 1, none⟩ = some (.int .i64 0)) ∧
    (∀ x : Later W, x.w.frozen? ⟨w.heap.size + 1 + 1, 0, none⟩ = false) ∧ (∀ x : Later W, x.w.frozen? ⟨w.heap.size + 1 + 1, 1, none⟩ = false) :=
  ⟨_, rfl, (((Ext.refl w).alloc _).alloc _).alloc _, by simp, Later.cell (by simp [go_sem]), Later.cell (by simp [go_sem]), Later.cell (by simp [go_sem]), Later.cell (by simp [go_sem]), Later.cell (by simp [go_sem]), Later.cell (by simp [go_sem]), Later.cell (by simp [go_sem]), Later.frozen (by simp) (by simp [go_sem]), Later.frozen (by simp) (by simp [go_sem])⟩

set_option maxHeartbeats 1000000 in
theorem brake_walk (s a j v b c : Int) (w : World) (s2 : s ≤ 100000) (a1 : 1 ≤ a) (a2 : a ≤ 100000) (j1 : 2 ≤ j) (j2 : j ≤ 100000) (v1 : 0 ≤ v) (v2 : v ≤ s) (b1 : -a ≤ b) (b2 : b ≤ a)
    (c1 : max (-a) (b - j) ≤ c) (c2 : c ≤ min a (b + j)) (hc : ∀ x, max (-a) (b - j) ≤ x → x < min a (b + j) → (fad j (-x) ≤ v + x ↔ c ≤ x)) :
    Calls Tryd.prog 74 #[Lm s a j, .agg #[.int .i64 v, .int .i64 b]] w fun e w' => e = .returned (.agg #[.int .i64 (v + c), .int .i64 c]) ∧ Ext w w' := by
  have HC := Lib.hid hc; clear hc
  have C1 := Lib.hid c1; clear c1
  have C2 := Lib.hid c2; clear c2
  go_enter Tryd.func74, Tryd.ntmps74
  go_wp2
  obtain ⟨W, hW, hE, hz, k1, k2, k3, k4, k5, k6, k7, k8, k9⟩ := three_boxes (w := w) s a j v b 54 144
  rw [hW]; clear hW
  refine wp_region_later (by kernel_rfl) (by kernel_rfl) ?_
  repeat (go_big_quiet_step (fail))
  refine wpQuiet_nil ?_
  rintro _ ⟨x, rfl⟩
  generalize hlo : (if -a < b - j then b - j else -a) = lo
  generalize hhi : (if b + j < a then b + j else a) = hi
  have hlo' : max (-a) (b - j) = lo := by rw [← hlo]; split <;> omega
  have hhi' : min a (b + j) = hi := by rw [← hhi]; split <;> omega
  have lo1 : -a ≤ lo := by omega
  have hi1 : hi ≤ a := by omega
  have HC2 := Lib.hid (show ∀ x, lo ≤ x → x < hi → (fad j (-x) ≤ v + x ↔ c ≤ x) by have := HC.out; rw [hlo', hhi'] at this; exact this)
  have c1 : lo ≤ c := by have := C1.out; omega
  have c2 : c ≤ hi := by have := C2.out; omega
  clear hlo hhi hlo' hhi' HC C1 C2
  go_wp2
  go_loopw [5, 6] (fun l h wr => ∃ (p q : Int) (y : Later W), l = .int .i64 p ∧ h = .int .i64 q ∧ wr = y.w ∧ lo ≤ p ∧ p ≤ c ∧ c ≤ q ∧ q ≤ hi) (fun l h _ => (intOf h - intOf l).toNat)
  case atStart => exact ⟨_, _, x, rfl, rfl, rfl, by omega, by omega, by omega, by omega⟩
  case round =>
    obtain ⟨p, q, y, rfl, rfl, rfl, p1, p2, q1, q2⟩ := hrel
    by_cases hlt : p < q
    · go_wp2_with ((go_at_call 87; refine (floor_any _ _ _ (by omega) (by omega) (by omega) (by omega)).mono ?_; rintro e w' ⟨rfl, rfl⟩))
      have m1 : p ≤ (p + q) / 2 := by omega
      have m2 : (p + q) / 2 < q := by omega
      generalize (p + q) / 2 = m at m1 m2 ⊢
      obtain ⟨f1, f2⟩ := fad_le j (-m) j1 (by omega)
      have hm := HC2.out m (by omega) (by omega)
      by_cases ht : fad j (-m) ≤ v + m
      · have hcm : c ≤ m := hm.1 ht
        clear hm
        refine wp_region_later_at y (by kernel_rfl) (by kernel_rfl) ?_
        repeat (go_big_quiet_step ((go_at_call 89; exact Calls.later (fading_any _ _ _ _ _ (by omega) (by omega) (by omega)))))
        refine wpQuiet_nil ?_
        rintro _ ⟨y2, rfl⟩
        go_wp2
        go_roundw
        case rel => exact ⟨p, m, y2, rfl, rfl, rfl, by omega, by omega, by omega, by omega⟩
        case measure => simp [intOf]; omega
      · have hcm : m < c := by omega
        have ht' : decide (fad j (-m) ≤ v + m) = false := by simpa using ht
        clear hm
        refine wp_region_later_at y (by kernel_rfl) (by kernel_rfl) ?_
        repeat (go_big_quiet_step ((go_at_call 89; exact Calls.later (fading_any _ _ _ _ _ (by omega) (by omega) (by omega)))))
        refine wpQuiet_nil ?_
        rintro _ ⟨y2, rfl⟩
        go_wp2
        go_roundw
        case rel => exact ⟨m + 1, q, y2, rfl, rfl, rfl, by omega, by omega, by omega, by omega⟩
        case measure => simp [intOf]; omega
    · have hpc : p = c := by omega
      subst hpc
      go_wp2
      refine bodyPost_ret (v := .agg #[.int .i64 (v + p), .int .i64 p]) (by simp [results, Tryd.results74, go_sem, k6, k7]) rfl ⟨rfl, ?_⟩
      exact ((hE.trans y.ext).setCell (by simp; omega) _).setCell (by simp; omega) _


theorem brake_any (s a j v b : Int) (w : World) (hv : vld s a j = true) (hs : saf s a j v b = true) :
    Calls Tryd.prog 74 #[Lm s a j, .agg #[.int .i64 v, .int .i64 b]] w fun e w' => e = .returned (.agg #[.int .i64 (v + brk a j v b), .int .i64 (brk a j v b)]) ∧ Ext w w' := by
  obtain ⟨⟨s1, s2⟩, ⟨a1, a2⟩, ⟨j1, j2⟩⟩ := (vld_iff s a j).1 hv
  obtain ⟨⟨v1, v2⟩, ⟨b1, b2⟩, h3⟩ := (saf_iff s a j v b).1 hs
  obtain ⟨c1, c2, c3⟩ := brk_walk a j v b j1 b1 b2
  exact brake_walk s a j v b _ w s2 a1 a2 j1 j2 v1 v2 b1 b2 c1 c2 c3

/-- The boxes of limits (block N) and of a state (block M), in a world that extends w. -/
structure DBox (w wr : World) (N M : Nat) (s a j v b : Int) : Prop where
  ext : Ext w wr
  old : w.heap.size ≤ M
  nm : N ≠ M
  nlt : N < wr.heap.size
  mlt : M < wr.heap.size
  c0 : wr.cell? ⟨N, 0, none⟩ = some (.int .i64 s)
  c1 : wr.cell? ⟨N, 1, none⟩ = some (.int .i64 a)
  c2 : wr.cell? ⟨N, 2, none⟩ = some (.int .i64 j)
  d0 : wr.cell? ⟨M, 0, none⟩ = some (.int .i64 v)
  d1 : wr.cell? ⟨M, 1, none⟩ = some (.int .i64 b)
  f0 : wr.frozen? ⟨M, 0, none⟩ = false
  f1 : wr.frozen? ⟨M, 1, none⟩ = false

theorem DBox.later {w wr w1 : World} {N M : Nat} {s a j v b : Int} (h : DBox w wr N M s a j v b) (he : Ext wr w1) : DBox w w1 N M s a j v b where
  ext := h.ext.trans he
  old := h.old
  nm := h.nm
  nlt := Nat.lt_of_lt_of_le h.nlt he.size
  mlt := Nat.lt_of_lt_of_le h.mlt he.size
  c0 := by rw [he.cell h.nlt]; exact h.c0
  c1 := by rw [he.cell h.nlt]; exact h.c1
  c2 := by rw [he.cell h.nlt]; exact h.c2
  d0 := by rw [he.cell h.mlt]; exact h.d0
  d1 := by rw [he.cell h.mlt]; exact h.d1
  f0 := by rw [he.frozen h.mlt]; exact h.f0
  f1 := by rw [he.frozen h.mlt]; exact h.f1

theorem DBox.set {w wr : World} {N M : Nat} {s a j v b : Int} (h : DBox w wr N M s a j v b) (v' b' : Int) :
    DBox w ((wr.setCell ⟨M, 0, none⟩ (.int .i64 v')).setCell ⟨M, 1, none⟩ (.int .i64 b')) N M s a j v' b' := by
  have nm := h.nm
  have c0 := h.c0; have c1 := h.c1; have c2 := h.c2; have d0 := h.d0; have d1 := h.d1; have f0 := h.f0; have f1 := h.f1
  exact {
    ext := (h.ext.setCell h.old _).setCell h.old _
    old := h.old
    nm := nm
    nlt := by simpa [World.setCell] using h.nlt
    mlt := by simpa [World.setCell] using h.mlt
    c0 := by simp [go_sem, c0]
    c1 := by simp [go_sem, c1]
    c2 := by simp [go_sem, c2]
    d0 := by simp [go_sem, d0]
    d1 := by simp [go_sem, d1]
    f0 := by simp [go_sem, f0]
    f1 := by simp [go_sem, f1] }


/-- The number in a cell. -/
def cellInt (w : World) (p : Addr) : Int := intOf ((w.cell? p).getD undef)
theorem cellInt_of {w : World} {p : Addr} {n : Int} (h : w.cell? p = some (.int .i64 n)) : cellInt w p = n := by simp [cellInt, h, intOf]

set_option maxHeartbeats 1000000 in
theorem distance_any (s a j v b : Int) (w : World) (hv : vld s a j = true) (hs : saf s a j v b = true) :
    Calls Tryd.prog 73 #[Lm s a j, .agg #[.int .i64 v, .int .i64 b]] w fun e w' => e = .returned (.int .i64 (dsum s a j v b)) ∧ Ext w w' := by
  have HV := Lib.hid hv; clear hv
  have HS := Lib.hid hs; clear hs
  go_enter Tryd.func73, Tryd.ntmps73
  go_wp2
  go_loopw [5] (fun t wr => ∃ (x y acc : Int), t = .int .i64 acc ∧ DBox w wr w.heap.size (w.heap.size + 1) s a j x y ∧ saf s a j x y = true ∧ 0 ≤ acc ∧ acc + dsum s a j x y = dsum s a j v b) (fun _ wr => mu s (cellInt wr ⟨w.heap.size + 1, 0, none⟩) (cellInt wr ⟨w.heap.size + 1, 1, none⟩))
  case atStart =>
    refine ⟨v, b, 0, rfl, ?_, HS.out, by omega, by omega⟩
    exact { ext := ((Ext.refl w).alloc _).alloc _, old := by omega, nm := by omega, nlt := by simp; omega, mlt := by simp, c0 := by simp [go_sem], c1 := by simp [go_sem], c2 := by simp [go_sem], d0 := by simp [go_sem], d1 := by simp [go_sem], f0 := by simp [go_sem], f1 := by simp [go_sem] }
  case round =>
    obtain ⟨x, y, acc, rfl, hb, hxy, hacc, htot⟩ := hrel
    obtain ⟨t1, t2⟩ := dsum_le s a j v b HV.out HS.out
    obtain ⟨t3, t4⟩ := dsum_le s a j x y HV.out hxy
    have hacc3 : acc ≤ 20000200000 := by omega
    have c0 := hb.c0; have c1 := hb.c1; have c2 := hb.c2; have d0 := hb.d0; have d1 := hb.d1
    have m0 := cellInt_of d0
    have m1 := cellInt_of d1
    by_cases h0 : x = 0 ∧ y = 0
    · obtain ⟨rfl, rfl⟩ := h0
      rw [dsum_rest] at htot
      have hacc2 : acc = dsum s a j v b := by omega
      have HA := Lib.hid hacc2
      have he := hb.ext
      clear htot hacc2 m0 m1
      go_wp2
      go_ret
      exact ⟨ret_int HA.out, he⟩
    · have hm := mu_lt s a j x y HV.out hxy h0
      have hd := dsum_cons s a j x y HV.out hxy h0
      have hxy2 := (brk_props s a j x y HV.out hxy).1
      obtain ⟨⟨v1, v2⟩, -, -⟩ := (saf_iff _ _ _ _ _).1 hxy2
      obtain ⟨⟨-, s2⟩, -, -⟩ := (vld_iff _ _ _).1 HV.out
      have H := Lib.hid (And.intro htot (And.intro hm (And.intro hd (And.intro hxy2 (And.intro m0 (And.intro m1 hxy))))))
      clear htot hm hd hxy2 m0 m1 hxy
      rcases (show (¬ x = 0) ∨ (x = 0 ∧ ¬ y = 0) by omega) with hx | ⟨rfl, hy⟩
      · clear h0
        go_wp2_with fail
        refine (brake_any s a j _ _ _ HV.out H.out.2.2.2.2.2.2).mono ?_
        rintro e w1 ⟨rfl, he⟩
        have hb1 := hb.later he
        have c0' := hb1.c0; have c1' := hb1.c1; have c2' := hb1.c2; have d0' := hb1.d0; have d1' := hb1.d1; have f0' := hb1.f0; have f1' := hb1.f1
        go_wp2
        have hb2 := hb1.set (x + brk a j x y) (brk a j x y)
        obtain ⟨g1, g2, g3, g4, g5, g6, -⟩ := H.out
        go_roundw
        case rel => exact ⟨x + brk a j x y, brk a j x y, acc + (x + brk a j x y), by go_num, hb2, g4, by omega, by omega⟩
        case measure => rw [g5, g6, cellInt_of hb2.d0, cellInt_of hb2.d1]; exact g2
      · clear h0
        simp only [Int.zero_add] at v1 v2 H
        go_wp2_with fail
        refine (brake_any s a j _ _ _ HV.out H.out.2.2.2.2.2.2).mono ?_
        rintro e w1 ⟨rfl, he⟩
        have hb1 := hb.later he
        have c0' := hb1.c0; have c1' := hb1.c1; have c2' := hb1.c2; have d0' := hb1.d0; have d1' := hb1.d1; have f0' := hb1.f0; have f1' := hb1.f1
        go_wp2
        have hb2 := hb1.set (brk a j 0 y) (brk a j 0 y)
        obtain ⟨g1, g2, g3, g4, g5, g6, -⟩ := H.out
        go_roundw
        case rel => exact ⟨brk a j 0 y, brk a j 0 y, acc + brk a j 0 y, by go_num, hb2, g4, by omega, by omega⟩
        case measure => rw [g5, g6, cellInt_of hb2.d0, cellInt_of hb2.d1]; exact g2

end Go.Proofs.YtjibcnnbclcboaaDoor

namespace Go.Proofs.YtjibcnnbclcboaaDoor
open Go.RowKit
set_option maxRecDepth 8000

theorem vcode_yes {s a j : Int} (h : vld s a j = true) : vcode s a j = 0 := by simp [vcode, h]
theorem vcode_no {s a j : Int} (h : vld s a j = false) : vcode s a j = 1 := by simp [vcode, h]

set_option maxHeartbeats 1000000 in
theorem moving_any (s a j p q : Int) (w : World) :
    Calls Tryd.prog 72 #[Lm s a j, .int .i64 p, .int .i64 q] w fun e w' => e = .returned (.bool (mvg s a j p q)) ∧ Ext w w' := by
  cases hv : vld s a j
  · have e : mvg s a j p q = false := by simp [mvg, hv]
    rw [e]; clear e
    go_enter Tryd.func72, Tryd.ntmps72
    go_wp2_with fail
    refine (valid_no s a j _ hv).mono ?_
    rintro e w1 ⟨rfl, he⟩
    go_wp2
    go_ret
    exact ⟨rfl, ((Ext.refl w).alloc _).trans he⟩
  · have hs := (vld_iff s a j).1 hv
    have HV := Lib.hid hv
    have HX := Lib.hid hs
    have k : ∀ w1, Ext (w.alloc (.cells #[.int .i64 s, .int .i64 a, .int .i64 j] 54)) w1 → w1.cell? ⟨w.heap.size, 0, none⟩ = some (.int .i64 s) ∧ w1.cell? ⟨w.heap.size, 1, none⟩ = some (.int .i64 a) ∧ w1.cell? ⟨w.heap.size, 2, none⟩ = some (.int .i64 j) := by
      intro w1 he
      refine ⟨?_, ?_, ?_⟩ <;> (rw [he.cell (by simp)]; simp [go_sem])
    have HK := Lib.hid k
    clear k hs
    cases hp : inR p 0 s
    · have e : mvg s a j p q = false := by simp [mvg, hv, hp]
      rw [e]; clear e hv
      go_enter Tryd.func72, Tryd.ntmps72
      go_wp2_with fail
      refine (valid_yes s a j _ HV.out).mono ?_
      rintro e w1 ⟨rfl, he⟩
      obtain ⟨k0, k1, k2⟩ := HK.out w1 he
      go_wp2_with ((go_at_call 85; refine (within_any _ _ _ _).mono ?_; rintro e w' ⟨rfl, rfl⟩))
      go_ret
      exact ⟨rfl, ((Ext.refl w).alloc _).trans he⟩
    · cases hq : inR q 0 s
      · have e : mvg s a j p q = false := by simp [mvg, hv, hp, hq]
        rw [e]; clear e hv
        go_enter Tryd.func72, Tryd.ntmps72
        go_wp2_with fail
        refine (valid_yes s a j _ HV.out).mono ?_
        rintro e w1 ⟨rfl, he⟩
        obtain ⟨k0, k1, k2⟩ := HK.out w1 he
        go_wp2_with ((go_at_call 85; refine (within_any _ _ _ _).mono ?_; rintro e w' ⟨rfl, rfl⟩))
        go_ret
        exact ⟨rfl, ((Ext.refl w).alloc _).trans he⟩
      · have e : mvg s a j p q = saf s a j q (q - p) := by simp [mvg, hv, hp, hq]
        rw [e]; clear e hv
        obtain ⟨p1, p2⟩ := (inR_iff _ _ _).1 hp
        obtain ⟨q1, q2⟩ := (inR_iff _ _ _).1 hq
        obtain ⟨⟨s1, s2⟩, -, -⟩ := HX.out
        go_enter Tryd.func72, Tryd.ntmps72
        go_wp2_with fail
        refine (valid_yes s a j _ HV.out).mono ?_
        rintro e w1 ⟨rfl, he⟩
        obtain ⟨k0, k1, k2⟩ := HK.out w1 he
        go_wp2_with (first | (go_at_call 85; refine (within_any _ _ _ _).mono ?_; rintro e w' ⟨rfl, rfl⟩) | (go_at_call 88; refine (safe_any _ _ _ _ _ _ HV.out).mono ?_; rintro e w2 ⟨rfl, he2⟩))
        go_ret
        exact ⟨rfl, (((Ext.refl w).alloc _).trans he).trans he2⟩

end Go.Proofs.YtjibcnnbclcboaaDoor
