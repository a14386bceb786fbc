/-
  Walks: lengths and limits of layer 50.
  Walks: limits, ranges and the reference's lengths of layer 50.
  Slices of motions; walks: Same of layer 50.
  Walks: check of layer 50.
-/
import Derived.Test.YtjibcnnbclcboaaDoorQS06
import Derived.Laws.Externs
import Derived.Laws.FloatArith
namespace Go.Proofs.YtjibcnnbclcboaaDoor
open Go.RowKit
set_option maxRecDepth 8000
set_option maxRecDepth 8000

abbrev Mv (m : Mot) : Value := .agg #[.int .i64 m.fx, .int .i64 m.fy, .int .i64 m.fz, .int .i64 m.tx, .int .i64 m.ty, .int .i64 m.tz, .int .i64 m.rate, .int .i64 m.tool, .int .i64 m.block]

theorem Tryd.sqrt_run (x r : Nat) (w : World) (h : FloatKind.f64.format.sqrt x = some r) : (callFunc 91 #[.float .f64 x]).run Tryd.prog w = .ok (.value (.float .f64 r)) w := by
  rw [run_callFunc_extern Tryd.func91 (by kernel_rfl) (by kernel_rfl) (by kernel_rfl) (e := Extern.MathSqrt.sqrt) (by kernel_rfl)]
  change (Sem.run Tryd.prog (match FloatKind.f64.format.sqrt x with
    | some r => pure (Value.float .f64 r)
    | none => do pure (Value.float .f64 (← choose (.nanBits .f64 x x)))) w).andThen _ = _
  simp [h, Result.andThen]

theorem mathSqrt_any (x r : Nat) (w : World) (h : FloatKind.f64.format.sqrt x = some r) :
    Calls Tryd.prog 77 #[.float .f64 x] w fun e w' => e = .returned (.float .f64 r) ∧ w = w' := by
  have hs := Tryd.sqrt_run x r w h
  go_enter Tryd.func77, Tryd.ntmps77
  go_wp2
  go_ret
  exact ⟨rfl, rfl⟩

set_option maxHeartbeats 1000000 in
theorem length_any (m : Mot) (w : World) (h : m.rng) :
    Calls Tryd.prog 60 #[Mv m] w fun e w' => e = .returned (.int .i64 m.len) ∧ Ext w w' := by
  have hl := Mot.len_is h
  have hb := Mot.sq_bounds h
  obtain ⟨⟨x, y, z⟩, x', y', z'⟩ := h
  have h1 := sq_le x' x
  have h2 := sq_le y' y
  have h3 := sq_le z' z
  obtain ⟨r, hr, n, hn, hn2⟩ := sqrt_small m.sq (by omega) (by omega)
  have hc : floatToIntVal .f64 r .i64 = some (n : Int) := by
    unfold floatToIntVal
    rw [hn]
    have e1 : IntKind.i64.min = -9223372036854775808 := by decide
    have e2 : IntKind.i64.max = 9223372036854775807 := by decide
    simp only [e1, e2]
    rw [if_pos (by omega)]
  have hcv := fun w => run_convert_float_int (P := Tryd.prog) w 149 2 .f64 .i64 r n (by rw [Tryd.underlying149]; rfl) Tryd.underlying2 hc
  have HL := Lib.hid hl
  clear hl hc hn
  unfold Mot.sq at hb hr HL
  obtain ⟨x1, x2⟩ := x; obtain ⟨y1, y2⟩ := y; obtain ⟨z1, z2⟩ := z
  obtain ⟨x1', x2'⟩ := x'; obtain ⟨y1', y2'⟩ := y'; obtain ⟨z1', z2'⟩ := z'
  generalize m.len = L at HL ⊢
  go_enter Tryd.func60, Tryd.ntmps60
  go_wp2_with fail
  obtain ⟨W, hW⟩ : ∃ W : World, w.alloc (.cells #[.int .i64 m.fx, .int .i64 m.fy, .int .i64 m.fz, .int .i64 m.tx, .int .i64 m.ty, .int .i64 m.tz, .int .i64 m.rate, .int .i64 m.tool, .int .i64 m.block] 49) = W := ⟨_, rfl⟩
  have c0 : ∀ x : Later W, x.w.cell? ⟨w.heap.size, 0, none⟩ = some (.int .i64 m.fx) := Later.cell (by subst hW; simp [go_sem])
  have c1 : ∀ x : Later W, x.w.cell? ⟨w.heap.size, 1, none⟩ = some (.int .i64 m.fy) := Later.cell (by subst hW; simp [go_sem])
  have c2 : ∀ x : Later W, x.w.cell? ⟨w.heap.size, 2, none⟩ = some (.int .i64 m.fz) := Later.cell (by subst hW; simp [go_sem])
  have c3 : ∀ x : Later W, x.w.cell? ⟨w.heap.size, 3, none⟩ = some (.int .i64 m.tx) := Later.cell (by subst hW; simp [go_sem])
  have c4 : ∀ x : Later W, x.w.cell? ⟨w.heap.size, 4, none⟩ = some (.int .i64 m.ty) := Later.cell (by subst hW; simp [go_sem])
  have c5 : ∀ x : Later W, x.w.cell? ⟨w.heap.size, 5, none⟩ = some (.int .i64 m.tz) := Later.cell (by subst hW; simp [go_sem])
  have hE : Ext w W := by subst hW; exact (Ext.refl w).alloc _
  rw [hW]; clear hW
  refine wp_region_later (by kernel_rfl) (by kernel_rfl) ?_
  repeat (go_big_quiet_step (fail))
  refine wpQuiet_nil ?_
  rintro _ ⟨x, rfl⟩
  go_wp2_with ((go_at_call 77; refine (mathSqrt_any _ _ _ hr).mono ?_; rintro e w' ⟨rfl, rfl⟩))
  have hE2 := hE.trans x.ext
  have hLb : L ≤ 40000000 := isLen_le HL.out (by decide) (by omega)
  clear hr hcv c0 c1 c2 c3 c4 c5 hE h1 h2 h3 x1 x2 y1 y2 z1 z2 x1' x2' y1' y2' z1' z2'
  generalize x.w = W1 at hE2 ⊢
  clear x
  generalize (m.tx - m.fx) * (m.tx - m.fx) + (m.ty - m.fy) * (m.ty - m.fy) + (m.tz - m.fz) * (m.tz - m.fz) = S at hb HL ⊢
  go_loop [7] (fun t => ∃ k : Int, t = .int .i64 k ∧ 0 ≤ k ∧ k ≤ 600000000) (fun t => (intOf t).toNat)
  case atStart => exact ⟨n, rfl, by omega, by omega⟩
  case round =>
    obtain ⟨k, rfl, k0, k1⟩ := hrel
    have hq := sq_mono (show 0 ≤ k by omega) k1
    have hq0 : 0 ≤ k * k := Int.mul_nonneg k0 k0
    have hp : 0 < k → 0 ≤ (k - 1) * (k - 1) ∧ (k - 1) * (k - 1) ≤ 360000000000000000 := fun h => ⟨Int.mul_nonneg (by omega) (by omega), by have := sq_mono (show 0 ≤ k - 1 by omega) (show k - 1 ≤ 600000000 by omega); omega⟩
    by_cases hz : 0 < k
    · obtain ⟨p0, p1⟩ := hp hz
      by_cases hs : S ≤ (k - 1) * (k - 1)
      · clear hp
        go_wp2
        go_round
        case rel => exact ⟨k - 1, by go_num, by omega, by omega⟩
        case measure => simp [intOf]; omega
      · clear hp
        go_wp2
        go_loop [7] (fun t => ∃ k : Int, t = .int .i64 k ∧ 0 ≤ k ∧ k ≤ 600000000 ∧ (0 < k → (k - 1) * (k - 1) < S)) (fun t => (L - intOf t).toNat)
        case atStart => exact ⟨k, rfl, by omega, by omega, fun h => by omega⟩
        case round =>
          obtain ⟨i, rfl, i0, i1, i2⟩ := hrel
          have hi := sq_mono i0 i1
          have hi0 : 0 ≤ i * i := Int.mul_nonneg i0 i0
          by_cases hs2 : i * i < S
          · have hiL : i < L := by
              rcases Int.lt_or_le i L with h | h
              · exact h
              · have := sq_mono HL.out.1 h
                have := HL.out.2.1
                omega
            clear i2
            go_wp2
            go_round
            case rel => exact ⟨i + 1, by go_num, by omega, by omega, fun _ => by rw [Int.add_sub_cancel]; omega⟩
            case measure => simp [intOf]; omega
          · have hie : i = L := isLen_unique ⟨i0, by omega, i2⟩ HL.out
            clear i2
            subst hie
            go_wp2
            go_ret
            exact ⟨rfl, hE2⟩
    · have hk : k = 0 := by omega
      clear hp hq hq0
      go_wp2
      go_loop [7] (fun t => ∃ k : Int, t = .int .i64 k ∧ 0 ≤ k ∧ k ≤ 600000000 ∧ (0 < k → (k - 1) * (k - 1) < S)) (fun t => (L - intOf t).toNat)
      case atStart => exact ⟨0, rfl, by omega, by omega, fun h => by omega⟩
      case round =>
        obtain ⟨i, rfl, i0, i1, i2⟩ := hrel
        have hi := sq_mono i0 i1
        have hi0 : 0 ≤ i * i := Int.mul_nonneg i0 i0
        by_cases hs2 : i * i < S
        · have hiL : i < L := by
            rcases Int.lt_or_le i L with h | h
            · exact h
            · have := sq_mono HL.out.1 h
              have := HL.out.2.1
              omega
          clear i2
          go_wp2
          go_round
          case rel => exact ⟨i + 1, by go_num, by omega, by omega, fun _ => by rw [Int.add_sub_cancel]; omega⟩
          case measure => simp [intOf]; omega
        · have hie : i = L := isLen_unique ⟨i0, by omega, i2⟩ HL.out
          clear i2
          subst hie
          go_wp2
          go_ret
          exact ⟨rfl, hE2⟩

end Go.Proofs.YtjibcnnbclcboaaDoor

namespace Go.Proofs.YtjibcnnbclcboaaDoor
open Go.RowKit
set_option maxRecDepth 8000
set_option maxRecDepth 8000

theorem Mot.spd_lim (m : Mot) (s : Int) : m.spd s = if 0 < m.rate then (if (m.rate - 1) / 1000 + 1 < s then (m.rate - 1) / 1000 + 1 else s) else s := by
  unfold Mot.spd
  split <;> split <;> (try split) <;> omega

set_option maxHeartbeats 400000 in
theorem limit_any (m : Mot) (s a j : Int) (w : World) (hr : m.rate ≤ 9223372036854775807) :
    Calls Tryd.prog 39 #[Mv m, Lm s a j] w fun e w' => e = .returned (Lm (m.spd s) a j) ∧ Ext w w' := by
  rw [Mot.spd_lim]
  by_cases h : 0 < m.rate
  · have e : (m.rate - 1).tdiv 1000 = (m.rate - 1) / 1000 := Int.tdiv_eq_ediv_of_nonneg (by omega)
    rw [if_pos h]
    by_cases h2 : (m.rate - 1) / 1000 + 1 < s
    · rw [if_pos h2]
      go_enter Tryd.func39, Tryd.ntmps39
      go_wp2
      refine bodyPost_ret (by simp [results, Tryd.results39, go_sem]) rfl ⟨rfl, ?_⟩
      exact (((Ext.refl w).alloc _).alloc _).alloc _
    · rw [if_neg h2]
      go_enter Tryd.func39, Tryd.ntmps39
      go_wp2
      refine bodyPost_ret (by simp [results, Tryd.results39, go_sem]) rfl ⟨rfl, ?_⟩
      exact (((Ext.refl w).alloc _).alloc _).alloc _
  · rw [if_neg h]
    go_enter Tryd.func39, Tryd.ntmps39
    go_wp2
    refine bodyPost_ret (by simp [results, Tryd.results39, go_sem]) rfl ⟨rfl, ?_⟩
    exact (((Ext.refl w).alloc _).alloc _).alloc _

/-- A position is in range. -/
def inP (x y z : Int) : Prop := inG x ∧ inG y ∧ inG z
instance (x y z : Int) : Decidable (inP x y z) := inferInstanceAs (Decidable (_ ∧ _))

set_option maxHeartbeats 1000000 in
theorem far_any (x y z : Int) (w : World) :
    Calls Tryd.prog 70 #[Ps x y z] w fun e w' => e = .returned (.bool (!decide (inP x y z))) ∧ Ext w w' := by
  have hE : Ext w (w.alloc (.cells #[.int .i64 x, .int .i64 y, .int .i64 z] 40)) := (Ext.refl w).alloc _
  go_enter Tryd.func70, Tryd.ntmps70
  go_wp2
  all_goals go_ret
  all_goals refine ⟨ret_bool ?_, hE⟩
  all_goals (repeat' split at *)
  all_goals (by_cases hn : inP x y z <;> simp [hn] <;> unfold inP inG at hn <;> omega)

theorem size_sq (a b : Int) : (if a < b then b - a else a - b) * (if a < b then b - a else a - b) = (b - a) * (b - a) := by
  split
  · rfl
  · rw [← Int.neg_sub a b, Int.neg_mul_neg]

/-- The nine cells of a motion. -/
structure MBox (W : World) (N : Nat) (m : Mot) : Prop where
  c0 : ∀ x : Later W, x.w.cell? ⟨N, 0, none⟩ = some (.int .i64 m.fx)
  c1 : ∀ x : Later W, x.w.cell? ⟨N, 1, none⟩ = some (.int .i64 m.fy)
  c2 : ∀ x : Later W, x.w.cell? ⟨N, 2, none⟩ = some (.int .i64 m.fz)
  c3 : ∀ x : Later W, x.w.cell? ⟨N, 3, none⟩ = some (.int .i64 m.tx)
  c4 : ∀ x : Later W, x.w.cell? ⟨N, 4, none⟩ = some (.int .i64 m.ty)
  c5 : ∀ x : Later W, x.w.cell? ⟨N, 5, none⟩ = some (.int .i64 m.tz)
  c6 : ∀ x : Later W, x.w.cell? ⟨N, 6, none⟩ = some (.int .i64 m.rate)
  c7 : ∀ x : Later W, x.w.cell? ⟨N, 7, none⟩ = some (.int .i64 m.tool)
  c8 : ∀ x : Later W, x.w.cell? ⟨N, 8, none⟩ = some (.int .i64 m.block)

theorem MBox.mk' (w : World) (m : Mot) : ∃ W : World, w.alloc (.cells #[.int .i64 m.fx, .int .i64 m.fy, .int .i64 m.fz, .int .i64 m.tx, .int .i64 m.ty, .int .i64 m.tz, .int .i64 m.rate, .int .i64 m.tool, .int .i64 m.block] 49) = W ∧ MBox W w.heap.size m ∧ Ext w W := by
  refine ⟨_, rfl, ?_, (Ext.refl w).alloc _⟩
  constructor <;> exact Later.cell (by simp [go_sem])

/-- The size of a number, as the reference computes it. -/
def szw (x : Int) : Int := if x < 0 then (if x = -9223372036854775808 then x else -x) else x

theorem szw_inG {x : Int} (x1 : -9223372036854775808 ≤ x) : inG x ↔ ¬ 10000000 < szw x ∧ x ≠ -9223372036854775808 := by
  unfold inG szw
  split
  · split <;> omega
  · omega

end Go.Proofs.YtjibcnnbclcboaaDoor

namespace Go.Proofs.YtjibcnnbclcboaaDoor
open Go.RowKit
set_option maxRecDepth 8000
set_option maxRecDepth 8000

def Mot.zero : Mot := ⟨0, 0, 0, 0, 0, 0, 0, 0, 0⟩

/-- The cells of a motion from an address on. -/
structure CellsM (w : World) (b o : Nat) (m : Mot) : Prop where
  c0 : w.cell? ⟨b, o, none⟩ = some (.int .i64 m.fx)
  c1 : w.cell? ⟨b, o + 1, none⟩ = some (.int .i64 m.fy)
  c2 : w.cell? ⟨b, o + 2, none⟩ = some (.int .i64 m.fz)
  c3 : w.cell? ⟨b, o + 3, none⟩ = some (.int .i64 m.tx)
  c4 : w.cell? ⟨b, o + 4, none⟩ = some (.int .i64 m.ty)
  c5 : w.cell? ⟨b, o + 5, none⟩ = some (.int .i64 m.tz)
  c6 : w.cell? ⟨b, o + 6, none⟩ = some (.int .i64 m.rate)
  c7 : w.cell? ⟨b, o + 7, none⟩ = some (.int .i64 m.tool)
  c8 : w.cell? ⟨b, o + 8, none⟩ = some (.int .i64 m.block)

theorem CellsM.later {w w' : World} {b o : Nat} {m : Mot} (h : CellsM w b o m) (hb : b < w.heap.size) (he : Ext w w') : CellsM w' b o m where
  c0 := by rw [he.cell hb]; exact h.c0
  c1 := by rw [he.cell hb]; exact h.c1
  c2 := by rw [he.cell hb]; exact h.c2
  c3 := by rw [he.cell hb]; exact h.c3
  c4 := by rw [he.cell hb]; exact h.c4
  c5 := by rw [he.cell hb]; exact h.c5
  c6 := by rw [he.cell hb]; exact h.c6
  c7 := by rw [he.cell hb]; exact h.c7
  c8 := by rw [he.cell hb]; exact h.c8

/-- A slice that reads as a list of motions. -/
def SlM (w : World) (v : Value) (l : List Mot) : Prop :=
  ∃ (a : Option Addr) (n cap b off : Nat), v = .slice a n cap ∧ n = l.length ∧ (n = 0 ∨ a = some ⟨b, off, none⟩) ∧ (a = none → cap = 0) ∧ ∀ i, i < n → b < w.heap.size ∧ CellsM w b (off + i * 9) (l.getD i Mot.zero)

theorem SlM.later {w w' : World} {v : Value} {l : List Mot} (h : SlM w v l) (he : Ext w w') : SlM w' v l := by
  obtain ⟨a, n, cap, b, off, h1, h2, h3, h5, h4⟩ := h
  refine ⟨a, n, cap, b, off, h1, h2, h3, h5, fun i hi => ?_⟩
  obtain ⟨p, q⟩ := h4 i hi
  exact ⟨Nat.lt_of_lt_of_le p he.size, q.later p he⟩

theorem Mot.ext' {p q : Mot} : p = q ↔ p.fx = q.fx ∧ p.fy = q.fy ∧ p.fz = q.fz ∧ p.tx = q.tx ∧ p.ty = q.ty ∧ p.tz = q.tz ∧ p.rate = q.rate ∧ p.tool = q.tool ∧ p.block = q.block := by
  cases p; cases q; simp

theorem Tryd.neq_mot (p q : Mot) (w : World) : (binOp .neq 49 (Mv p) (Mv q)).run Tryd.prog w = .ok (.bool (!decide (p = q))) w := by
  by_cases h : p = q
  · subst h; simp [go_sem]
  · have e : (!decide (p = q)) = true := by simp [h]
    rw [e]
    rw [Mot.ext'] at h
    clear e
    by_cases h0 : p.fx = q.fx
    case neg => simp [go_sem, h0]
    by_cases h1 : p.fy = q.fy
    case neg => simp [go_sem, h0, h1]
    by_cases h2 : p.fz = q.fz
    case neg => simp [go_sem, h0, h1, h2]
    by_cases h3 : p.tx = q.tx
    case neg => simp [go_sem, h0, h1, h2, h3]
    by_cases h4 : p.ty = q.ty
    case neg => simp [go_sem, h0, h1, h2, h3, h4]
    by_cases h5 : p.tz = q.tz
    case neg => simp [go_sem, h0, h1, h2, h3, h4, h5]
    by_cases h6 : p.rate = q.rate
    case neg => simp [go_sem, h0, h1, h2, h3, h4, h5, h6]
    by_cases h7 : p.tool = q.tool
    case neg => simp [go_sem, h0, h1, h2, h3, h4, h5, h6, h7]
    by_cases h8 : p.block = q.block
    case neg => simp [go_sem, h0, h1, h2, h3, h4, h5, h6, h7, h8]
    exact absurd ⟨h0, h1, h2, h3, h4, h5, h6, h7, h8⟩ h

/-- Two positions are the same. -/
def eqP (a b c d e f : Int) : Bool := decide (a = d ∧ b = e ∧ c = f)

theorem Tryd.neq_pos (a b c d e f : Int) (w : World) : (binOp .neq 40 (Ps a b c) (Ps d e f)).run Tryd.prog w = .ok (.bool (!eqP a b c d e f)) w := by
  unfold eqP
  simp [go_sem]
  by_cases h1 : a = d <;> by_cases h2 : b = e <;> by_cases h3 : c = f <;> simp [h1, h2, h3]

theorem Tryd.eql_pos (a b c d e f : Int) (w : World) : (binOp .eql 40 (Ps a b c) (Ps d e f)).run Tryd.prog w = .ok (.bool (eqP a b c d e f)) w := by
  unfold eqP
  simp [go_sem]
  by_cases h1 : a = d <;> by_cases h2 : b = e <;> by_cases h3 : c = f <;> simp [h1, h2, h3]

/-- All numbers of a motion are numbers of 64 bits. -/
structure Mot.wf (m : Mot) : Prop where
  a0 : -9223372036854775808 ≤ m.fx ∧ m.fx ≤ 9223372036854775807
  a1 : -9223372036854775808 ≤ m.fy ∧ m.fy ≤ 9223372036854775807
  a2 : -9223372036854775808 ≤ m.fz ∧ m.fz ≤ 9223372036854775807
  a3 : -9223372036854775808 ≤ m.tx ∧ m.tx ≤ 9223372036854775807
  a4 : -9223372036854775808 ≤ m.ty ∧ m.ty ≤ 9223372036854775807
  a5 : -9223372036854775808 ≤ m.tz ∧ m.tz ≤ 9223372036854775807
  a6 : -9223372036854775808 ≤ m.rate ∧ m.rate ≤ 9223372036854775807

/-- A motion that begins where the one before ends, with a rate that is not negative. -/
def goodAt (l : List Mot) (i : Nat) : Bool :=
  !decide ((l.getD i Mot.zero).rate < 0) && (!decide (0 < i) || eqP (l.getD (i - 1) Mot.zero).tx (l.getD (i - 1) Mot.zero).ty (l.getD (i - 1) Mot.zero).tz (l.getD i Mot.zero).fx (l.getD i Mot.zero).fy (l.getD i Mot.zero).fz)

/-- All motions from the first on are good. -/
def goodTo (l : List Mot) : Nat → Bool
  | 0 => true
  | k + 1 => goodTo l k && goodAt l k

def rngAt (l : List Mot) (i : Nat) : Bool := decide ((l.getD i Mot.zero).rng)
def rngTo (l : List Mot) : Nat → Bool
  | 0 => true
  | k + 1 => rngTo l k && rngAt l k

/-- The error of motions, apart from their times. -/
def conn (l : List Mot) : Int := if goodTo l l.length = false then 1 else if rngTo l l.length = false then 11 else if 20000 < l.length then 3 else 0

theorem goodTo_false {l : List Mot} {k : Nat} (h : goodAt l k = false) : ∀ n, k < n → goodTo l n = false
  | 0, hn => by omega
  | n + 1, hn => by
    unfold goodTo
    by_cases hk : k = n
    · subst hk; simp [h]
    · simp [goodTo_false h n (by omega)]
theorem rngTo_false {l : List Mot} {k : Nat} (h : rngAt l k = false) : ∀ n, k < n → rngTo l n = false
  | 0, hn => by omega
  | n + 1, hn => by
    unfold rngTo
    by_cases hk : k = n
    · subst hk; simp [h]
    · simp [rngTo_false h n (by omega)]
theorem rngTo_at {l : List Mot} : ∀ {n : Nat}, rngTo l n = true → ∀ k, k < n → (l.getD k Mot.zero).rng
  | 0, _, k, hk => by omega
  | n + 1, h, k, hk => by
    unfold rngTo at h
    simp only [Bool.and_eq_true] at h
    by_cases e : k = n
    · subst e; simpa [rngAt] using h.2
    · exact rngTo_at h.1 k (by omega)

end Go.Proofs.YtjibcnnbclcboaaDoor

namespace Go.Proofs.YtjibcnnbclcboaaDoor
open Go.RowKit
set_option maxRecDepth 8000
set_option maxRecDepth 8000

/-- The first error of the plans. -/
def stpTo (l : List Mot) (s a j : Int) : Nat → Int
  | 0 => 0
  | k + 1 => if stpTo l s a j k = 0 then stepsE (l.getD k Mot.zero).len ((l.getD k Mot.zero).spd s) a j else stpTo l s a j k

/-- The error of check. -/
def chk (l : List Mot) (s a j : Int) : Int := if vld s a j = false then 1 else if conn l = 0 then stpTo l s a j l.length else conn l

theorem goodTo_succ {l : List Mot} {k : Nat} (h : goodTo l k = true) (h' : goodAt l k = true) : goodTo l (k + 1) = true := by simp [goodTo, h, h']
theorem rngTo_succ {l : List Mot} {k : Nat} (h : rngTo l k = true) (h' : rngAt l k = true) : rngTo l (k + 1) = true := by simp [rngTo, h, h']
theorem chk_bad {l : List Mot} {s a j : Int} {k : Nat} (hv : vld s a j = true) (hk : k < l.length) (h : goodAt l k = false) : chk l s a j = 1 := by
  have := goodTo_false h l.length hk
  simp [chk, hv, conn, this]
theorem chk_far {l : List Mot} {s a j : Int} {k : Nat} (hv : vld s a j = true) (hk : k < l.length) (hg : goodTo l l.length = true) (h : rngAt l k = false) : chk l s a j = 11 := by
  have := rngTo_false h l.length hk
  simp [chk, hv, conn, this, hg]

theorem stpTo_keep {l : List Mot} {s a j : Int} {k : Nat} (h : ¬ stpTo l s a j k = 0) : ∀ n, k ≤ n → stpTo l s a j n = stpTo l s a j k
  | 0, hn => by have : k = 0 := by omega
                subst this; rfl
  | n + 1, hn => by
    by_cases e : k = n + 1
    · subst e; rfl
    · have := stpTo_keep h n (by omega)
      show (if stpTo l s a j n = 0 then _ else _) = _
      rw [this, if_neg h]

theorem LBox.of {w : World} (s a j : Int) (t : TypeId) : LBox w (w.alloc (.cells #[.int .i64 s, .int .i64 a, .int .i64 j] t)) w.heap.size s a j := LBox.mk' (Ext.refl _)

set_option maxHeartbeats 4000000 in
theorem check_core (ad : Option Addr) (cap b off : Nat) (l : List Mot) (s a j : Int) (w : World) (hn : l.length ≤ 1000000000000) (had : l.length = 0 ∨ ad = some ⟨b, off, none⟩)
    (hc : ∀ i, i < l.length → b < w.heap.size ∧ CellsM w b (off + i * 9) (l.getD i Mot.zero)) (hw : ∀ i, i < l.length → (l.getD i Mot.zero).wf) :
    Calls Tryd.prog 50 #[.slice ad l.length cap, Lm s a j] w fun e w' => e = .returned (.int .i64 (chk l s a j)) ∧ Ext w w' := by
  have HC := Lib.hid hc; clear hc
  have HAD := Lib.hid had; clear had
  have HW := Lib.hid hw; clear hw
  generalize hN : l.length = n at *
  have HN := Lib.hid hN; clear hN
  cases hv : vld s a j
  · have e : chk l s a j = 1 := by simp [chk, hv]
    rw [e]; clear e
    go_enter Tryd.func50, Tryd.ntmps50
    go_wp2_with fail
    refine (valid_no s a j _ hv).mono ?_
    rintro e w1 ⟨rfl, he⟩
    go_wp2
    go_ret
    exact ⟨rfl, ((Ext.refl w).alloc _).trans he⟩
  · have HV := Lib.hid hv; clear hv
    go_enter Tryd.func50, Tryd.ntmps50
    go_wp2_with fail
    refine (valid_yes s a j _ HV.out).mono ?_
    rintro e w1 ⟨rfl, he⟩
    have B := LBox.mk' he
    clear he
    go_wp2
    go_loopw [5, 18] (fun _ t wr => ∃ (k : Nat) (x : Later w1), k ≤ n ∧ t = .int .i64 k ∧ wr = x.w ∧ goodTo l k = true) (fun _ t _ => n - (intOf t).toNat)
    case atStart => exact ⟨0, Later.self w1, by omega, rfl, rfl, rfl⟩
    case round =>
      obtain ⟨k, x, hk, rfl, rfl, hall⟩ := hrel
      have HA := Lib.hid hall; clear hall
      by_cases hlt : k < n
      · obtain ⟨hb1, hb2⟩ := HC.out k hlt
        obtain rfl : ad = some ⟨b, off, none⟩ := (HAD.out).resolve_left (by omega)
        have hb3 := (hb2.later hb1 B.ext).later (Nat.lt_of_lt_of_le hb1 B.ext.size) x.ext
        have c0 := hb3.c0; have c1 := hb3.c1; have c2 := hb3.c2; have c3 := hb3.c3; have c4 := hb3.c4; have c5 := hb3.c5; have c6 := hb3.c6; have c7 := hb3.c7; have c8 := hb3.c8
        clear hb3 hb2
        cases hr : decide ((l.getD k Mot.zero).rate < 0)
        · rcases Nat.eq_zero_or_pos k with hk0 | hk0
          · have hg : goodAt l k = true := by simp [goodAt, hk0]; simpa [hk0] using hr
            have HG := Lib.hid (goodTo_succ HA.out hg)
            clear hg
            subst hk0
            simp only [Nat.zero_mul, Nat.add_zero] at c0 c1 c2 c3 c4 c5 c6 c7 c8
            generalize l.getD 0 Mot.zero = p at *
            go_wp2
            obtain ⟨W2, hW2, MB, hE2⟩ := MBox.mk' x.w p
            rw [hW2]; clear hW2
            have m0 := MB.c0; have m1 := MB.c1; have m2 := MB.c2; have m6 := MB.c6
            refine wp_region_later (by kernel_rfl) (by kernel_rfl) ?_
            repeat (go_big_quiet_step (fail))
            refine wpQuiet_nil ?_
            rintro _ ⟨x2, rfl⟩
            go_wp2
            go_roundw
            case rel => exact ⟨0 + 1, ⟨x2.w, (x.ext.trans hE2).trans x2.ext⟩, by omega, by go_num, rfl, HG.out⟩
            case measure => simp [intOf]; omega
          · obtain ⟨k, rfl⟩ : ∃ i, k = i + 1 := ⟨k - 1, by omega⟩
            obtain ⟨hqb, hq⟩ := HC.out k (by omega)
            have hqb := Nat.lt_of_lt_of_le hqb B.ext.size
            have hq := hq.later (HC.out k (by omega)).1 B.ext
            cases he : eqP (l.getD k Mot.zero).tx (l.getD k Mot.zero).ty (l.getD k Mot.zero).tz (l.getD (k + 1) Mot.zero).fx (l.getD (k + 1) Mot.zero).fy (l.getD (k + 1) Mot.zero).fz
            · have hf := chk_bad (l := l) (k := k + 1) (s := s) (a := a) (j := j) HV.out (by rw [HN.out]; exact hlt) (by simp only [goodAt, hr, Nat.add_sub_cancel, he]; simp)
              have HF := Lib.hid hf
              clear hf
              have hne := fun w => Tryd.neq_pos (l.getD k Mot.zero).tx (l.getD k Mot.zero).ty (l.getD k Mot.zero).tz (l.getD (k + 1) Mot.zero).fx (l.getD (k + 1) Mot.zero).fy (l.getD (k + 1) Mot.zero).fz w
              rw [he] at hne
              clear he
              generalize l.getD (k + 1) Mot.zero = p at *
              generalize l.getD k Mot.zero = q at *
              go_wp2
              obtain ⟨W2, hW2, MB, hE2⟩ := MBox.mk' x.w p
              rw [hW2]; clear hW2
              have m0 := MB.c0; have m1 := MB.c1; have m2 := MB.c2; have m6 := MB.c6
              have r3 := Later.cell (hq.later hqb (x.ext.trans hE2)).c3; have r4 := Later.cell (hq.later hqb (x.ext.trans hE2)).c4; have r5 := Later.cell (hq.later hqb (x.ext.trans hE2)).c5
              refine wp_region_later (by kernel_rfl) (by kernel_rfl) ?_
              repeat (go_big_quiet_step (fail))
              refine wpQuiet_nil ?_
              rintro _ ⟨x2, rfl⟩
              go_wp2
              go_ret
              exact ⟨ret_int HF.out.symm, (B.ext.trans x.ext).trans (hE2.trans x2.ext)⟩
            · have hg : goodAt l (k + 1) = true := by simp only [goodAt, hr, Nat.add_sub_cancel, he]; simp
              have HG := Lib.hid (goodTo_succ HA.out hg)
              clear hg
              have hne := fun w => Tryd.neq_pos (l.getD k Mot.zero).tx (l.getD k Mot.zero).ty (l.getD k Mot.zero).tz (l.getD (k + 1) Mot.zero).fx (l.getD (k + 1) Mot.zero).fy (l.getD (k + 1) Mot.zero).fz w
              rw [he] at hne
              clear he
              generalize l.getD (k + 1) Mot.zero = p at *
              generalize l.getD k Mot.zero = q at *
              go_wp2
              obtain ⟨W2, hW2, MB, hE2⟩ := MBox.mk' x.w p
              rw [hW2]; clear hW2
              have m0 := MB.c0; have m1 := MB.c1; have m2 := MB.c2; have m6 := MB.c6
              have r3 := Later.cell (hq.later hqb (x.ext.trans hE2)).c3; have r4 := Later.cell (hq.later hqb (x.ext.trans hE2)).c4; have r5 := Later.cell (hq.later hqb (x.ext.trans hE2)).c5
              refine wp_region_later (by kernel_rfl) (by kernel_rfl) ?_
              repeat (go_big_quiet_step (fail))
              refine wpQuiet_nil ?_
              rintro _ ⟨x2, rfl⟩
              go_wp2
              go_roundw
              case rel => exact ⟨k + 1 + 1, ⟨x2.w, (x.ext.trans hE2).trans x2.ext⟩, by omega, by go_num, rfl, HG.out⟩
              case measure => simp [intOf]; omega
        · have hf := chk_bad (l := l) (k := k) (s := s) (a := a) (j := j) HV.out (by rw [HN.out]; exact hlt) (by simp only [goodAt, hr]; simp)
          have HF := Lib.hid hf
          clear hf
          generalize l.getD k Mot.zero = p at *
          go_wp2
          obtain ⟨W2, hW2, MB, hE2⟩ := MBox.mk' x.w p
          rw [hW2]; clear hW2
          have m0 := MB.c0; have m1 := MB.c1; have m2 := MB.c2; have m6 := MB.c6
          refine wp_region_later (by kernel_rfl) (by kernel_rfl) ?_
          repeat (go_big_quiet_step (fail))
          refine wpQuiet_nil ?_
          rintro _ ⟨x2, rfl⟩
          go_wp2
          go_ret
          exact ⟨ret_int HF.out.symm, (B.ext.trans x.ext).trans (hE2.trans x2.ext)⟩
      · have hkn : k = n := by omega
        have hg0 := HA.out
        rw [hkn, ← HN.out] at hg0
        have HG0 := Lib.hid hg0
        clear hkn hg0 HA
        have hEx := B.ext.trans x.ext
        have Bx := B.later x.ext
        clear B
        obtain ⟨wx, hwx⟩ : ∃ wx, x.w = wx := ⟨_, rfl⟩
        rw [hwx] at hEx Bx ⊢
        clear hwx x
        go_wp2
        clear hlt hk
        go_loopw [44] (fun t wr => ∃ (k : Nat) (x : Later wx), k ≤ n ∧ t = .int .i64 k ∧ wr = x.w ∧ rngTo l k = true) (fun t _ => n - (intOf t).toNat)
        case atStart => exact ⟨0, Later.self wx, by omega, rfl, rfl, rfl⟩
        case round =>
          obtain ⟨k, x, hk, rfl, rfl, hall⟩ := hrel
          have HA := Lib.hid hall; clear hall
          by_cases hlt : k < n
          · obtain ⟨hb1, hb2⟩ := HC.out k hlt
            obtain rfl : ad = some ⟨b, off, none⟩ := (HAD.out).resolve_left (by omega)
            have hb3 := (hb2.later hb1 hEx).later (Nat.lt_of_lt_of_le hb1 hEx.size) x.ext
            have c0 := hb3.c0; have c1 := hb3.c1; have c2 := hb3.c2; have c3 := hb3.c3; have c4 := hb3.c4; have c5 := hb3.c5; have c6 := hb3.c6; have c7 := hb3.c7; have c8 := hb3.c8
            clear hb3 hb2
            have hR : rngAt l k = (decide (inP (l.getD k Mot.zero).fx (l.getD k Mot.zero).fy (l.getD k Mot.zero).fz) && decide (inP (l.getD k Mot.zero).tx (l.getD k Mot.zero).ty (l.getD k Mot.zero).tz)) := by
              simp [rngAt, Mot.rng, inP]
            have hX := chk_far (l := l) (k := k) (s := s) (a := a) (j := j) HV.out (by rw [HN.out]; exact hlt) HG0.out
            have HX := Lib.hid hX; have HR := Lib.hid hR
            clear hX hR
            generalize l.getD k Mot.zero = p at *
            cases hF : decide (inP p.fx p.fy p.fz)
            · have HF := Lib.hid (HX.out (by rw [HR.out, hF]; rfl))
              go_wp2_with fail
              obtain ⟨W2, hW2, MB, hE2⟩ := MBox.mk' x.w p
              rw [hW2]; clear hW2
              with_reducible refine (far_any p.fx p.fy p.fz _).mono ?_
              rw [hF]
              rintro e w3 ⟨rfl, he3⟩
              go_wp2
              go_ret
              exact ⟨ret_int HF.out.symm, (hEx.trans x.ext).trans (hE2.trans he3)⟩
            · cases hT : decide (inP p.tx p.ty p.tz)
              · have HF := Lib.hid (HX.out (by rw [HR.out, hF, hT]; rfl))
                go_wp2_with fail
                obtain ⟨W2, hW2, MB, hE2⟩ := MBox.mk' x.w p
                rw [hW2]; clear hW2
                with_reducible refine (far_any p.fx p.fy p.fz _).mono ?_
                rw [hF]
                rintro e w3 ⟨rfl, he3⟩
                have m3 := MB.c3 ⟨w3, he3⟩; have m4 := MB.c4 ⟨w3, he3⟩; have m5 := MB.c5 ⟨w3, he3⟩
                change w3.cell? _ = _ at m3 m4 m5
                go_wp2_with fail
                with_reducible refine (far_any p.tx p.ty p.tz _).mono ?_
                rw [hT]
                rintro e w4 ⟨rfl, he4⟩
                go_wp2
                go_ret
                exact ⟨ret_int HF.out.symm, (hEx.trans x.ext).trans ((hE2.trans he3).trans he4)⟩
              · have HG := Lib.hid (rngTo_succ HA.out (by rw [HR.out, hF, hT]; rfl))
                go_wp2_with fail
                obtain ⟨W2, hW2, MB, hE2⟩ := MBox.mk' x.w p
                rw [hW2]; clear hW2
                with_reducible refine (far_any p.fx p.fy p.fz _).mono ?_
                rw [hF]
                rintro e w3 ⟨rfl, he3⟩
                have m3 := MB.c3 ⟨w3, he3⟩; have m4 := MB.c4 ⟨w3, he3⟩; have m5 := MB.c5 ⟨w3, he3⟩
                change w3.cell? _ = _ at m3 m4 m5
                go_wp2_with fail
                with_reducible refine (far_any p.tx p.ty p.tz _).mono ?_
                rw [hT]
                rintro e w4 ⟨rfl, he4⟩
                go_wp2
                go_roundw
                case rel => exact ⟨k + 1, ⟨w4, (x.ext.trans hE2).trans (he3.trans he4)⟩, by omega, by go_num, rfl, HG.out⟩
                case measure => simp [intOf]; omega
          · have hkn : k = n := by omega
            have hr0 := HA.out
            rw [hkn, ← HN.out] at hr0
            have HR0 := Lib.hid hr0
            clear hkn hr0 HA
            have hEy := hEx.trans x.ext
            have By := Bx.later x.ext
            clear Bx hEx
            obtain ⟨wy, hwy⟩ : ∃ wy, x.w = wy := ⟨_, rfl⟩
            rw [hwy] at hEy By ⊢
            clear hwy x
            by_cases hlen : 20000 < n
            · have hF : chk l s a j = 3 := by
                have h1 : conn l = 3 := by unfold conn; rw [HG0.out, HR0.out, HN.out, if_neg (by decide), if_neg (by decide), if_pos hlen]
                simp [chk, HV.out, h1]
              have HF := Lib.hid hF; clear hF
              go_wp2
              go_ret
              exact ⟨ret_int HF.out.symm, hEy⟩
            · have hF : chk l s a j = stpTo l s a j n := by
                have h1 : conn l = 0 := by unfold conn; rw [HG0.out, HR0.out, HN.out, if_neg (by decide), if_neg (by decide), if_neg hlen]
                simp [chk, HV.out, h1, HN.out]
              have HF := Lib.hid hF; clear hF
              go_wp2
              clear hlt hk
              go_loopw [62] (fun t wr => ∃ (k : Nat) (x : Later wy), k ≤ n ∧ t = .int .i64 k ∧ wr = x.w ∧ stpTo l s a j k = 0) (fun t _ => n - (intOf t).toNat)
              case atStart => exact ⟨0, Later.self wy, by omega, rfl, rfl, rfl⟩
              case round =>
                obtain ⟨k, x, hk, rfl, rfl, hall⟩ := hrel
                have HA := Lib.hid hall; clear hall
                by_cases hlt : k < n
                · obtain ⟨hb1, hb2⟩ := HC.out k hlt
                  obtain rfl : ad = some ⟨b, off, none⟩ := (HAD.out).resolve_left (by omega)
                  have hb3 := (hb2.later hb1 hEy).later (Nat.lt_of_lt_of_le hb1 hEy.size) x.ext
                  have c0 := hb3.c0; have c1 := hb3.c1; have c2 := hb3.c2; have c3 := hb3.c3; have c4 := hb3.c4; have c5 := hb3.c5; have c6 := hb3.c6; have c7 := hb3.c7; have c8 := hb3.c8
                  clear hb3 hb2
                  have hrg := rngTo_at HR0.out k (by rw [HN.out]; exact hlt)
                  have hwf := HW.out k hlt
                  have hnx : stpTo l s a j (k + 1) = stepsE (l.getD k Mot.zero).len ((l.getD k Mot.zero).spd s) a j := by
                    show (if stpTo l s a j k = 0 then _ else _) = _
                    rw [if_pos HA.out]
                  have HX := Lib.hid hnx; have HRG := Lib.hid hrg; have HWF := Lib.hid hwf
                  clear hnx hrg hwf
                  generalize l.getD k Mot.zero = p at *
                  go_wp2
                  obtain ⟨W2, hW2, MB, hE2⟩ := MBox.mk' x.w p
                  rw [hW2]; clear hW2
                  have m0 := MB.c0; have m1 := MB.c1; have m2 := MB.c2; have m3 := MB.c3; have m4 := MB.c4; have m5 := MB.c5; have m6 := MB.c6; have m7 := MB.c7; have m8 := MB.c8
                  have Bz := (By.later x.ext).later hE2
                  have k0 := Later.cell Bz.c0; have k1 := Later.cell Bz.c1; have k2 := Later.cell Bz.c2
                  refine wp_region_plan (fun w' => ∃ y : Later W2, w' = y.w) 11 [([0, 2, 3], 1), ([], 4), ([], 5)] [6, 7, 8, 9, 10] (by kernel_rfl) (by kernel_rfl) (by kernel_rfl) ⟨⟨_, (Ext.refl W2).drew⟩, rfl⟩ ?_
                  simp only [List.take_succ_cons, List.take_zero, List.map_cons, List.map_nil, pickSeg, pickOp, List.getElem?_cons_zero, List.getElem?_cons_succ, Option.getD_some]
                  refine segs_cons fun K hK => ?_
                  repeat (go_big_quiet_step (fail))
                  refine wpQuiet_nil ?_
                  go_wp2_with fail
                  refine (length_any p _ HRG.out).mono ?_
                  rintro e w3 ⟨rfl, he3⟩
                  have he3' : Ext W2 w3 := ((Ext.refl W2).drew).trans he3
                  go_wp2_with fail
                  refine onlyK_normal (hK _ _ ⟨⟨w3, he3'⟩, rfl⟩ ?_); clear hK K
                  refine segs_cons fun K hK => wpQuiet_nil ?_
                  go_wp2_with fail
                  refine (limit_any p s a j _ HWF.out.a6.2).mono ?_
                  rintro e w4 ⟨rfl, he4⟩
                  go_wp2_with fail
                  refine onlyK_normal (hK _ _ ⟨⟨w4, he3'.trans he4⟩, rfl⟩ ?_); clear hK K
                  refine segs_cons fun K hK => wpQuiet_nil ?_
                  go_wp2_with fail
                  refine (steps_any p.len (p.spd s) a j _).mono ?_
                  rintro e w5 ⟨v5, rfl, hown5, he5⟩
                  go_wp2_with fail
                  refine onlyK_normal (hK _ _ ⟨⟨w5, (he3'.trans he4).trans he5⟩, rfl⟩ ?_); clear hK K
                  refine segs_last ?_
                  simp only [List.drop_succ_cons, List.drop_zero]
                  repeat (go_big_quiet_step (fail))
                  refine wpQuiet_nil ?_
                  have hEz := (x.ext.trans hE2).trans ((he3'.trans he4).trans he5)
                  clear m0 m1 m2 m3 m4 m5 m6 m7 m8 k0 k1 k2 c0 c1 c2 c3 c4 c5 c6 c7 c8
                  by_cases h0 : stepsE p.len (p.spd s) a j = 0
                  · have HG := Lib.hid (HX.out.trans h0)
                    rw [h0]; clear h0
                    go_wp2
                    go_roundw
                    case rel => exact ⟨k + 1, ⟨w5, hEz⟩, by omega, by go_num, rfl, HG.out⟩
                    case measure => simp [intOf]; omega
                  · have hF : chk l s a j = stepsE p.len (p.spd s) a j := by
                      rw [HF.out, ← HX.out]
                      exact stpTo_keep (by rw [HX.out]; exact h0) n (by omega)
                    have HF2 := Lib.hid hF
                    clear hF
                    generalize stepsE p.len (p.spd s) a j = c at *
                    go_wp2
                    go_ret
                    exact ⟨ret_int HF2.out.symm, hEy.trans hEz⟩
                · have hkn : k = n := by omega
                  have hF : chk l s a j = 0 := by rw [HF.out, ← hkn]; exact HA.out
                  have HF2 := Lib.hid hF
                  clear hF hkn
                  go_wp2
                  go_ret
                  exact ⟨ret_int HF2.out.symm, hEy.trans x.ext⟩

theorem check_any (v : Value) (l : List Mot) (s a j : Int) (w : World) (h : SlM w v l) (hn : l.length ≤ 1000000000000) (hw : ∀ i, i < l.length → (l.getD i Mot.zero).wf) :
    Calls Tryd.prog 50 #[v, Lm s a j] w fun e w' => e = .returned (.int .i64 (chk l s a j)) ∧ Ext w w' := by
  obtain ⟨ad, n, cap, b, off, rfl, rfl, h3, -, h4⟩ := h
  exact check_core ad cap b off l s a j w hn h3 h4 hw

end Go.Proofs.YtjibcnnbclcboaaDoor
