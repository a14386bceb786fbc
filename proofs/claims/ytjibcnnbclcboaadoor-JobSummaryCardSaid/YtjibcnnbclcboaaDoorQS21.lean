/-
  JobSummary: the parts of the law's walk: the result that the law builds.
-/
import Derived.Test.YtjibcnnbclcboaaDoorQS20
import Derived.Laws.MakeOwn
import Derived.Laws.Tables
import Derived.Great.BuildSlice
namespace Go.Proofs.YtjibcnnbclcboaaDoor
open Go.RowKit
set_option maxRecDepth 8000
set_option maxRecDepth 100000

theorem run_pv {s : Sem Value} {u : Value} {w w' : World} (h : s.run Tryd.prog w = .ok u w') : (do pure (Next.value (← s)) : Sem Next).run Tryd.prog w = .ok (.value u) w' := by
  rw [Sem.run_bind, h]; simp [Sem.run_pure]

/-- make([]T, n) of a small n. -/
theorem make_small (T e : TypeId) (hT : Tryd.prog.underlying T = some (.slice e)) (hi : (Tryd.prog.info? e).map (fun i => i.zero.isSome && decide (i.bytes ≤ 100000)) = some true) (n : Nat) (hn : n ≤ 255) (w : World) :
    ∃ w', (Instr.makeSlice T (.int .u8 (n : Int)) (.int .u8 (n : Int))).run Tryd.prog w = .ok (.slice (some ⟨w.heap.size, 0, none⟩) n n) w' ∧ Ext w w' := by
  obtain ⟨i, hi1, hi2⟩ := Option.map_eq_some_iff.1 hi
  simp only [Bool.and_eq_true, decide_eq_true_eq] at hi2
  obtain ⟨z, hz⟩ := Option.isSome_iff_exists.1 hi2.1
  have hb : (i.bytes : Int) * (n : Int) ≤ 281474976710656 := by
    have h1 : i.bytes * n ≤ 100000 * 255 := Nat.mul_le_mul hi2.2 hn
    have h2 : ((i.bytes * n : Nat) : Int) ≤ ((100000 * 255 : Nat) : Int) := Int.ofNat_le.2 h1
    rw [Int.natCast_mul] at h2
    omega
  have := run_make (P := Tryd.prog) w T e i z hT hi1 hz .u8 .u8 (n : Int) (n : Int) (by omega) (Int.le_refl _) hb (by omega)
  rw [this]
  simp only [Int.toNat_natCast]
  exact ⟨_, rfl, (Ext.refl w).alloc _⟩

/-- The zero result. -/
def resZero : Array Value := #[.int .i64 0, .slice none 0 0, .int .i64 0, .int .i64 0, .int .i64 0, .int .i64 0, .int .i64 0, .int .i64 0, .slice none 0 0, .int .i64 0, .slice none 0 0, .string ⟨#[]⟩, .slice none 0 0, .slice none 0 0, .slice none 0 0]
/-- What the operations that build the result yield. -/
def SumR (A B nf nt nm na : Nat) : Nat → Value → World → Prop
  | 0, v, _ => v = .pointer (some ⟨A, 0, none⟩)
  | 1, v, _ => v = .int .u8 nf
  | 2, v, _ => ∃ ad c, v = .slice ad nf c
  | 3, v, _ => ∃ ad c, v = .agg #[.int .i64 0, .slice ad nf c]
  | 4, v, _ => v = .pointer (some ⟨A, 1, none⟩)
  | 5, v, _ => v = .int .u8 nt
  | 6, v, _ => ∃ ad c, v = .slice ad nt c
  | 7, v, _ => v = .pointer (some ⟨A, 2, none⟩)
  | 8, v, _ => v = .int .u8 nm
  | 9, v, _ => ∃ ad c, v = .slice ad nm c
  | 10, v, _ => v = .pointer (some ⟨A, 3, none⟩)
  | 11, v, _ => v = .int .u8 na
  | 12, v, _ => ∃ ad c, v = .slice ad na c
  | 13, v, _ => ∃ af at' am aa cf ct cm ca, v = ResV (.slice af nf cf) (.slice at' nt ct) (.slice am nm cm) (.slice aa na ca) (.slice none 0 0)
  | 14, v, w => ∃ b, v = .pointer (some ⟨b, 0, none⟩) ∧ B ≤ b ∧ w.heap[b]? = some (.cells resZero 37 (0, 0))
  | _, _, _ => True
theorem SumR.later {A B nf nt nm na : Nat} : ∀ (i : Nat) (v : Value) (w w' : World), Ext w w' → SumR A B nf nt nm na i v w → SumR A B nf nt nm na i v w' := by
  intro i v w w' he h
  match i with
  | 14 =>
    obtain ⟨b, h1, h2, h3⟩ := h
    exact ⟨b, h1, h2, heap_ext he h3⟩
  | 0 | 1 | 2 | 3 | 4 | 5 | 6 | 7 | 8 | 9 | 10 | 11 | 12 | 13 | n + 15 => exact h

/-- The cells of a pair of numbers. -/
def pairC (p : Int × Int) : List Value := [.int .i32 p.1, .int .i32 p.2]
def ListsV (nf nt nm na : Nat) (vc : Value) : Value := .agg #[.int .u8 nf, .int .u8 nt, .int .u8 nm, .int .u8 na, vc]
/-- The heights of the cuts. -/
def rem7 (p : Int × Int) : Int × Int := (p.1.tmod 10000000, p.2.tmod 10000000)

theorem slG_one {α : Type} {f : α → List Value} {k : Nat} {w : World} {b : Nat} {x : α} (hb : b < w.heap.size) (h : ∀ (r : Nat) u, (f x)[r]? = some u → w.cell? ⟨b, r, none⟩ = some u) : SlG k f w (.slice (some ⟨b, 0, none⟩) 1 1) [x] :=
  ⟨_, 1, 1, b, 0, rfl, rfl, .inr rfl, (fun h => by cases h), Nat.le_refl _, fun i y hy => by
    cases i with
    | zero =>
      obtain rfl : x = y := by simpa using hy
      refine ⟨hb, fun r u hu => ?_⟩
      rw [Nat.zero_add, Nat.zero_mul, Nat.zero_add]
      exact h r u hu
    | succ i => simp at hy⟩
theorem Ext.grown {w w1 w2 : World} {row : Option Nat} (h : Ext w w1) (hg : w1.grownBy w2 row) (hr : ∀ k, row = some k → w.heap.size ≤ k) : Ext w w2 := Below.grown h.out hg h.size hr
/-- The law's own least height. -/
def lawLow : List (Int × Int) → Int → Nat → Int
  | [], m, _ => m
  | p :: l, m, i => lawLow l (if i = 0 ∨ min p.1 p.2 < m then min p.1 p.2 else m) (i + 1)
theorem lawLow_snoc : ∀ (l : List (Int × Int)) (m : Int) (i : Nat) (p : Int × Int), lawLow (l ++ [p]) m i = if i + l.length = 0 ∨ min p.1 p.2 < lawLow l m i then min p.1 p.2 else lawLow l m i
  | [], _, _, _ => rfl
  | q :: l, m, i, p => by
    rw [List.cons_append, lawLow, lawLow_snoc l _ (i + 1) p, lawLow]
    simp only [List.length_cons]
    rw [show i + 1 + l.length = i + (l.length + 1) by omega]
theorem lawLow_pos : ∀ (l : List (Int × Int)) (m : Int) (i : Nat), 0 < i → lawLow l m i = lowK m l
  | [], _, _, _ => rfl
  | p :: l, m, i, hi => by
    rw [lawLow, lowK, lawLow_pos l _ (i + 1) (by omega)]
    congr 1
    unfold min3
    split <;> omega
/-- The law's least height is that of the program. -/
theorem lawLow_eq (p : Int × Int) (l : List (Int × Int)) : lawLow (p :: l) 0 0 = lowK p.1 (p :: l) := by
  rw [lawLow, lowK, lawLow_pos l _ 1 (by omega), if_pos (Or.inl rfl)]
  congr 1
  unfold min3
  omega

def itB (n : Nat) : ByteArray := ⟨(Lib.itoa (n : Int)).toArray⟩
theorem itB_size (n : Nat) (hn : n ≤ 1000) : (itB n).size ≤ 20 := by
  show (Lib.itoa (n : Int)).toArray.size ≤ 20
  rw [List.size_toArray, Lib.itoa_nonneg, Lib.decDigits_length]
  exact nDigits_le n (by omega)
def wantText (nf nt nm na nc : Nat) (last : ByteArray) : ByteArray :=
  ⟨#[102, 101, 97, 116, 117, 114, 101, 115, 32]⟩ ++ itB nf ++ ⟨#[10, 116, 111, 111, 108, 115, 32]⟩ ++ itB nt ++ ⟨#[10, 109, 111, 116, 105, 111, 110, 115, 32]⟩ ++ itB nm ++ ⟨#[10, 102, 97, 117, 108, 116, 115, 32]⟩ ++ itB na ++ ⟨#[10, 99, 117, 116, 115, 32]⟩ ++ itB nc ++ ⟨#[10, 108, 111, 119, 101, 115, 116, 32]⟩ ++ last ++ ⟨#[10]⟩
theorem ba_ext {a b : ByteArray} (h : a.data.toList = b.data.toList) : a = b := by
  cases a; cases b
  congr 1
  exact Array.ext' h
theorem want_eq (nf nt nm na nc : Nat) (ok : Bool) (ms : ByteArray) :
    sumAcc (sumNum nf nt nm na nc) itB 5 ++ sumLast ok ms = wantText nf nt nm na nc (if ok = true then ms else ⟨#[110, 111, 110, 101]⟩) := by
  apply ba_ext
  simp only [sumAcc, sumLine, sumName, sumNum, sumLast, wantText, ByteArray.data_append, Array.toList_append]
  simp

theorem add_named (a b : ByteArray) (A B : Nat) (ha : a.size ≤ A) (hb : b.size ≤ B) (hA : A ≤ 100000) (hB : B ≤ 100000) : ∃ S, a ++ b = S ∧ S.size ≤ A + B ∧ ∀ wx, (Op.stringOp .add a b).run Tryd.prog wx = .ok (.string S) wx :=
  ⟨_, rfl, by rw [ByteArray.size_append]; omega, fun wx => run_string_add (P := Tryd.prog) wx a b (by omega) (by omega)⟩

/-- The least height of cuts, 0 for none. -/
def lowK0 : List (Int × Int) → Int
  | [] => 0
  | p :: l => lowK p.1 (p :: l)
theorem lowK0_eq (l : List (Int × Int)) (h : l ≠ []) : lowK0 (l.map rem7) = lawLow (l.map rem7) 0 0 := by
  cases l with
  | nil => exact absurd rfl h
  | cons p l => rw [List.map_cons, lawLow_eq]; rfl
theorem rem7_small (l : List (Int × Int)) : smallP (l.map rem7) := by
  intro p hp
  obtain ⟨q, _, rfl⟩ := List.mem_map.1 hp
  have t1 := Int.tmod_lt_of_pos q.1 (show (0 : Int) < 10000000 by decide)
  have t2 := Int.lt_tmod_of_pos q.1 (show (0 : Int) < 10000000 by decide)
  have t3 := Int.tmod_lt_of_pos q.2 (show (0 : Int) < 10000000 by decide)
  have t4 := Int.lt_tmod_of_pos q.2 (show (0 : Int) < 10000000 by decide)
  unfold rem7
  exact ⟨by simp only; omega, by simp only; omega, by simp only; omega, by simp only; omega⟩
theorem lawLow_bound (l : List (Int × Int)) : -10000000 ≤ lawLow (l.map rem7) 0 0 ∧ lawLow (l.map rem7) 0 0 ≤ 10000000 := by
  cases l with
  | nil => decide
  | cons p l =>
    have h := rem7_small (p :: l)
    rw [List.map_cons] at h ⊢
    rw [lawLow_eq]
    have hp := h _ (List.mem_cons_self ..)
    exact lowK_bound _ _ hp.1 hp.2.1 h
set_option maxHeartbeats 1000000 in
theorem lowest_nil2 (a : Option Addr) (c : Nat) (w : World) : Calls Tryd.prog 15 #[.slice a 0 c] w fun e w' => e = .returned (.tuple #[.int .i64 (lowK0 (([] : List (Int × Int)).map rem7)), .bool false]) ∧ Ext w w' := by
  show Calls Tryd.prog 15 #[.slice a 0 c] w fun e w' => e = .returned (.tuple #[.int .i64 0, .bool false]) ∧ Ext w w'
  go_enter Tryd.func15, Tryd.ntmps15
  go_wp2
  go_ret2
  exact ⟨rfl, Ext.refl w⟩
theorem lowest_list (v : Value) (l : List (Int × Int)) (w : World) (h : SlG 7 cutC w v (l.map rem7)) (hl : l ≠ []) (hn : l.length ≤ 20) : Calls Tryd.prog 15 #[v] w fun e w' => e = .returned (.tuple #[.int .i64 (lowK0 (l.map rem7)), .bool true]) ∧ Ext w w' := by
  cases l with
  | nil => exact absurd rfl hl
  | cons p l => exact lowest_any v (rem7 p) (l.map rem7) w h (rem7_small (p :: l)) (by simp at hn ⊢; omega)
theorem sum_acc (nf nt nm na nc : Nat) (h1 : nf ≤ 1000) (h2 : nt ≤ 1000) (h3 : nm ≤ 1000) (h4 : na ≤ 1000) (h5 : nc ≤ 1000) :
    sumAcc (sumNum nf nt nm na nc) (fun n => if n ≤ 1000 then itB n else ⟨#[]⟩) 5 = sumAcc (sumNum nf nt nm na nc) itB 5 := by
  simp only [sumAcc, sumNum, h1, h2, h3, h4, h5, if_true]
theorem jsafe_any2 (af : Option Addr) (nf cf : Nat) (x0 vt : Value) (xm xa : Option Addr) (nm na cm ca : Nat) (vc : Value) (w : World) (h0 : x0 = .int .i64 0) :
    Calls Tryd.prog 8 #[.agg #[x0, .slice af nf cf, .int .i64 0, .int .i64 0, .int .i64 0, .int .i64 0, .int .i64 0, .int .i64 0, .slice none 0 0, .int .i64 0, vt, .string ⟨#[]⟩, .slice xm nm cm, .slice xa na ca, vc]] w fun e w' => e = .returned (.bool (decide (na = 0) && decide (0 < nm))) ∧ Ext w w' := by
  subst h0
  exact jsafe_any (.slice af nf cf) vt xm xa nm na cm ca vc w
end Go.Proofs.YtjibcnnbclcboaaDoor
