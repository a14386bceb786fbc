/-
  strings.Builder at this program: copyCheck and WriteString at a builder that the call has made itself (after the library's walk; this program's copyCheck ends in a refusal where the library's ends in a panic, so its own contract cannot be laid).
  job.Summary: the text of a result, given what strconv.Itoa, material.Lowest and decimal.Millimetres answer.
  Walks: awake: the examples of the chapter.
-/
import Derived.Test.YtjibcnnbclcboaaDoorQS16
import Derived.Lib.Builder
import Derived.Lib.AppendStr
import Derived.Lib.UnsafeStr
import Derived.Lib.Strings
import Derived.Laws.Externs
import Derived.Test.YtjibcnnbclcboaaDoorShelf
import Derived.Test.YtjibcnnbclcboaaDoorQS17
namespace Go.Proofs.YtjibcnnbclcboaaDoor
open Go.RowKit
set_option maxRecDepth 8000
set_option maxRecDepth 8000

theorem Tryd.sizeBld : (Tryd.prog.info? 65).map (·.size) = some 2 := by kernel_rfl
theorem Tryd.liesBld : liesAt Tryd.prog Tryd.prog.depth 65 (2 / Tryd.prog.cellsOf 65) 0 65 1 = true := by kernel_rfl
theorem Tryd.infoByte : (Tryd.prog.info? 5).map (fun i => (i.zero, i.size, i.bytes)) = some (some (.int .u8 0), 1, 1) := by kernel_rfl

/-- Blocks of another type than bytes stay as they are, but for the builder's own. -/
def Stays (b : Nat) (w w' : World) : Prop := ∀ (k : Nat) (cs : Array Value) (T : TypeId) (fz : Nat × Nat), w.heap[k]? = some (.cells cs T fz) → T ≠ 5 → k ≠ b → w'.heap[k]? = w.heap[k]?
theorem owns_other {B : Nat} {w : World} {e T : TypeId} {n m k : Nat} {v : Value} {xs : List Value} {cs : Array Value} {fz : Nat × Nat} (h : w.ownsRow B e m v n xs) (hk : w.heap[k]? = some (.cells cs T fz)) (hT : T ≠ e) : v.ownBlock ≠ some k := by
  obtain ⟨h1, h2⟩ := h
  rcases h2 with ⟨rfl, h3⟩ | ⟨g, cap, cur, rfl, h3, h4, h5, h6, h7, h8⟩
  · intro e; cases e
  · intro e
    obtain rfl : g = k := by simpa [Value.ownBlock] using e
    rw [hk] at h4
    injection h4 with h4
    injection h4 with _ h5
    exact hT h5

set_option maxHeartbeats 1000000 in
theorem bld_used (b : Nat) (w : World) (h0 : w.cell? ⟨b, 0, none⟩ = some (.pointer (some ⟨b, 0, none⟩))) :
    Calls Tryd.prog 31 #[.pointer (some ⟨b, 0, none⟩)] w fun e w' => e = .returned (.tuple #[]) ∧ w' = w := by
  obtain ⟨j, hj, _⟩ := Option.map_eq_some_iff.1 Tryd.sizeBld
  go_enter Tryd.func31, Tryd.ntmps31
  go_wp2
  rw [Lib.run_neq_ptr_same w _ Tryd.underlying62 hj]
  go_wp2
  go_end0
  exact ⟨rfl, rfl⟩

set_option maxHeartbeats 1000000 in
theorem bld_fresh (b : Nat) (w : World) (h0 : w.cell? ⟨b, 0, none⟩ = some (.pointer none)) (hsh : w.shape? b = some (65, 2)) (hfz : w.frozen? ⟨b, 0, none⟩ = false) :
    Calls Tryd.prog 31 #[.pointer (some ⟨b, 0, none⟩)] w fun e w' => e = .returned (.tuple #[]) ∧ w' = w.setCell ⟨b, 0, none⟩ (.pointer (some ⟨b, 0, none⟩)) := by
  obtain ⟨j, hj, hjs⟩ := Option.map_eq_some_iff.1 Tryd.sizeBld
  go_enter Tryd.func31, Tryd.ntmps31
  go_wp2
  rw [Lib.run_to_unsafe w ⟨b, 0, none⟩ Tryd.underlying62 Tryd.underlying115 hj (by rw [hjs]; decide) hsh (Nat.zero_lt_succ 1)]
  simp only [Result.andThen]
  rw [Oper.upon_value]
  go_wp2
  rw [run_callFunc_extern Tryd.func49 (by kernel_rfl) (by kernel_rfl) (by kernel_rfl) (e := Extern.AbiNoEscape.same) (by kernel_rfl)]
  rw [Lib.run_noEscape]
  simp only [Result.andThen]
  rw [Oper.upon_value]
  go_wp2
  rw [Lib.run_from_unsafe w ⟨b, 0, none⟩ Tryd.underlying115 Tryd.underlying62 hj hsh Tryd.liesBld]
  simp only [Result.andThen]
  rw [Oper.upon_value]
  go_wp2
  go_end0
  exact ⟨rfl, rfl⟩

theorem bld_check (B b : Nat) (bs : List Value) (w : World) (h : Lib.IsBuilder 65 5 B b bs w) :
    Calls Tryd.prog 31 #[.pointer (some ⟨b, 0, none⟩)] w fun e w' => e = .returned (.tuple #[]) ∧ (Lib.BuilderAt 65 5 B b (.pointer (some ⟨b, 0, none⟩)) bs w' ∧ Below B w w' ∧ Stays b w w') := by
  rcases h with h | h
  · refine (bld_fresh b w h.cell0 h.shape h.frozen0).mono ?_
    rintro e w' ⟨rfl, rfl⟩
    exact ⟨rfl, h.used _, (Below.refl B w).setCell (p := ⟨b, 0, none⟩) h.1 _, fun k _ _ _ _ _ hk => Below.heap_setCell _ _ _ _ (fun e => hk e)⟩
  · refine (bld_used b w h.cell0).mono ?_
    rintro e w' ⟨rfl, rfl⟩
    exact ⟨rfl, h, Below.refl B _, fun _ _ _ _ _ _ _ => rfl⟩

set_option maxHeartbeats 2000000 in
theorem bld_write (B b : Nat) (bs : List Value) (s : ByteArray) (w : World) (h : Lib.IsBuilder 65 5 B b bs w) (hlen : bs.length + s.size ≤ 140737488355328) (hBw : B ≤ w.heap.size) :
    Calls Tryd.prog 14 #[.pointer (some ⟨b, 0, none⟩), .string s] w fun e w' => e = .returned (.tuple #[.int .i64 s.size, .nilIface]) ∧ (Lib.IsBuilder 65 5 B b (bs ++ Lib.strCells s) w' ∧ Below B w w' ∧ Stays b w w') := by
  obtain ⟨i0, hi, hz0, hz1, hz2⟩ := info_parts Tryd.infoByte
  go_enter Tryd.func14, Tryd.ntmps14
  go_wp2_with (go_at_call 31; refine (bld_check B b bs _ h).mono ?_)
  rintro e w1 ⟨rfl, h1, hb1, hst1⟩
  obtain ⟨hB, v, hbk, hown, hne⟩ := h1
  have c0 : w1.cell? ⟨b, 0, none⟩ = some (.pointer (some ⟨b, 0, none⟩)) := by rw [Lib.cell_of_heap hbk]; rfl
  have c1 : w1.cell? ⟨b, 1, none⟩ = some v := by rw [Lib.cell_of_heap hbk]; rfl
  go_wp2_with (at_builtin; refine Lib.wpList_append_own_string _ rfl _ _ 63 9 rfl B 5 i0 Tryd.underlying63 Tryd.underlying9 hi hz0 hz1 hz2 _ _ _ rfl hown s rfl ?c3 ?c4 ?c5 ?_)
  case c3 => unfold maxLen; omega
  case c4 => omega
  case c5 => have := hb1.size; omega
  intro v' w2 hown' hgrow _
  have hlt : b < w1.heap.size := by
    rcases Nat.lt_or_ge b w1.heap.size with h' | h'
    · exact h'
    · simp [Array.getElem?_eq_none h'] at hbk
  have hb2 : w2.heap[b]? = some (.cells #[.pointer (some ⟨b, 0, none⟩), v] 65 (0, 0)) := by
    rw [hgrow.block b hlt (fun e => hne e.symm)]
    exact hbk
  have d0 : w2.cell? ⟨b, 0, none⟩ = some (.pointer (some ⟨b, 0, none⟩)) := by rw [Lib.cell_of_heap hb2]; rfl
  have d1 : w2.cell? ⟨b, 1, none⟩ = some v := by rw [Lib.cell_of_heap hb2]; rfl
  have f1 : w2.frozen? ⟨b, 1, none⟩ = false := Lib.frozen_of_heap hb2 1
  obtain ⟨ao, n', cap, rfl⟩ : ∃ ao n' cap, v' = .slice ao n' cap := by
    rcases hown'.2 with ⟨hv, _⟩ | ⟨g, cap, cur, hv, _⟩
    · exact ⟨_, _, _, hv⟩
    · exact ⟨_, _, _, hv⟩
  go_wp2
  go_ret2
  refine ⟨rfl, .inr ?_, ?_, ?_⟩
  · exact Lib.BuilderAt.put (T := 65) (e := 5) hB hb2 (bs' := bs ++ Lib.strCells s) (by simpa [Lib.strCells_length] using hown') (by decide)
  · exact (hb1.grown hgrow (by have := hb1.size; omega) (fun k hk => (hown.lt k hk).1)).setCell (p := ⟨b, 1, none⟩) hB _
  · intro k cs T fz hk hT hkb
    have h1 := hst1 k cs T fz hk hT hkb
    rw [Below.heap_setCell _ _ _ _ (fun e => hkb e), ← h1]
    have hlk : k < w1.heap.size := by
      rcases Nat.lt_or_ge k w1.heap.size with h' | h'
      · exact h'
      · rw [← h1, Array.getElem?_eq_none h'] at hk; cases hk
    exact hgrow.block k hlk (fun e => owns_other hown (h1.trans hk) hT e.symm)

end Go.Proofs.YtjibcnnbclcboaaDoor

namespace Go.Proofs.YtjibcnnbclcboaaDoor
open Go.RowKit
set_option maxRecDepth 8000
set_option maxRecDepth 8000

theorem bldAt_ext {T e : TypeId} {B b : Nat} {p : Value} {bs : List Value} {w w' : World} (h : Lib.BuilderAt T e B b p bs w) (k : Ext w w') : Lib.BuilderAt T e B b p bs w' := by
  have hlt := h.lt
  obtain ⟨hB, v, hb, hown, hne⟩ := h
  refine ⟨hB, v, by rw [k.out.block b hlt]; exact hb, ?_, hne⟩
  refine World.ownsRow.kept hown (row := none) ⟨k.out.os, k.out.tape, k.out.output, k.size, fun i hi _ => k.out.block i hi⟩ ?_
  cases h' : v.ownBlock <;> simp
theorem bld_ext {T e : TypeId} {B b : Nat} {bs : List Value} {w w' : World} (h : Lib.IsBuilder T e B b bs w) (k : Ext w w') : Lib.IsBuilder T e B b bs w' := h.imp (bldAt_ext · k) (bldAt_ext · k)
theorem heap_ext {w w' : World} (k : Ext w w') {b : Nat} {o : Obj} (h : w.heap[b]? = some o) : w'.heap[b]? = some o := by
  rw [k.out.block b ?_]; exact h
  rcases Nat.lt_or_ge b w.heap.size with h' | h'
  · exact h'
  · rw [Array.getElem?_eq_none h'] at h; cases h
theorem strCells_add (a b : ByteArray) : Lib.strCells (a ++ b) = Lib.strCells a ++ Lib.strCells b := by simp [Lib.strCells, ByteArray.data_append]
theorem below_ext {B : Nat} {w w1 w2 : World} (h : Ext w w1) (k : Below B w1 w2) (hB : w.heap.size ≤ B) : Ext w w2 := Below.trans h (Below.mono k hB)

/-- The value of a result. -/
def ResV (vf vt vm va vc : Value) : Value := .agg #[.int .i64 0, vf, .int .i64 0, .int .i64 0, .int .i64 0, .int .i64 0, .int .i64 0, .int .i64 0, .slice none 0 0, .int .i64 0, vt, .string ⟨#[]⟩, vm, va, vc]

def sumName : Nat → ByteArray
  | 0 => ⟨#[102, 101, 97, 116, 117, 114, 101, 115]⟩
  | 1 => ⟨#[116, 111, 111, 108, 115]⟩
  | 2 => ⟨#[109, 111, 116, 105, 111, 110, 115]⟩
  | 3 => ⟨#[102, 97, 117, 108, 116, 115]⟩
  | _ => ⟨#[99, 117, 116, 115]⟩
def sumNum (nf nt nm na nc : Nat) : Nat → Nat
  | 0 => nf
  | 1 => nt
  | 2 => nm
  | 3 => na
  | _ => nc
/-- One line. -/
def sumLine (name d : ByteArray) : ByteArray := name ++ ⟨#[32]⟩ ++ d ++ ⟨#[10]⟩
/-- The first lines. -/
def sumAcc (num : Nat → Nat) (ds : Nat → ByteArray) : Nat → ByteArray
  | 0 => ⟨#[]⟩
  | k + 1 => sumAcc num ds k ++ sumLine (sumName k) (ds (num k))
def sumLast (ok : Bool) (ms : ByteArray) : ByteArray := ⟨#[108, 111, 119, 101, 115, 116, 32]⟩ ++ (if ok = true then ms else ⟨#[110, 111, 110, 101]⟩) ++ ⟨#[10]⟩
theorem sumName_size (k : Nat) : (sumName k).size ≤ 8 := by
  unfold sumName
  split <;> decide
theorem sumLine_size {name d : ByteArray} (h1 : name.size ≤ 8) (h2 : d.size ≤ 1000) : (sumLine name d).size ≤ 1010 := by
  unfold sumLine
  simp only [ByteArray.size_append]
  have : (ByteArray.mk #[32]).size = 1 := rfl
  have : (ByteArray.mk #[10]).size = 1 := rfl
  omega
theorem sumAcc_size {num : Nat → Nat} {ds : Nat → ByteArray} (h : ∀ n, (ds n).size ≤ 1000) : ∀ k, (sumAcc num ds k).size ≤ k * 1010
  | 0 => by show (ByteArray.mk #[]).size ≤ _; exact Nat.zero_le _
  | k + 1 => by
    have h1 := sumAcc_size (num := num) h k
    have h2 := sumLine_size (sumName_size k) (h (num k))
    show (sumAcc num ds k ++ _).size ≤ _
    rw [ByteArray.size_append]
    omega

/-- Worlds in which a line's two cells stand. -/
def LnC (A : Nat) (s : ByteArray) (n : Int) : Type := { w : World // w.cell? ⟨A, 0, none⟩ = some (.string s) ∧ w.cell? ⟨A, 1, none⟩ = some (.int .i64 n) }
def LnC.w {A : Nat} {s : ByteArray} {n : Int} (x : LnC A s n) : World := x.1
theorem LnC.c0 {A : Nat} {s : ByteArray} {n : Int} : ∀ x : LnC A s n, x.w.cell? ⟨A, 0, none⟩ = some (.string s) := fun x => x.2.1
theorem LnC.c1 {A : Nat} {s : ByteArray} {n : Int} : ∀ x : LnC A s n, x.w.cell? ⟨A, 1, none⟩ = some (.int .i64 n) := fun x => x.2.2

theorem ln_alloc (w : World) (s : ByteArray) (n : Int) (t : TypeId) : ∃ W : World, w.alloc (.cells #[.string s, .int .i64 n] t) = W ∧ W.heap[w.heap.size]? = some (.cells #[.string s, .int .i64 n] t (0, 0)) ∧ Ext w W :=
  ⟨_, rfl, heap_alloc_new w _, (Ext.refl w).alloc _⟩
theorem row_alloc (w : World) (cs : Array Value) (t : TypeId) : ∃ W : World, w.alloc (.cells cs t) = W ∧ W.heap[w.heap.size]? = some (.cells cs t (0, 0)) ∧ Ext w W ∧ W.heap.size = w.heap.size + 1 :=
  ⟨_, rfl, heap_alloc_new w _, (Ext.refl w).alloc _, by simp⟩

theorem str_back (b : ByteArray) : (⟨b.data.toList.toArray⟩ : ByteArray) = b := by cases b; simp
theorem bld_lt {T e : TypeId} {B b : Nat} {bs : List Value} {w : World} (h : Lib.IsBuilder T e B b bs w) : b < w.heap.size := by
  rcases h with h | h <;> exact h.lt

set_option maxHeartbeats 8000000 in
theorem summary_any (xf xt xm xa xc : Option Addr) (nf nt nm na nc cf ct cm ca cc : Nat) (ds : Nat → ByteArray) (z : Int) (ok : Bool) (ms : ByteArray) (w : World) (hds : ∀ n, (ds n).size ≤ 1000) (hms : ms.size ≤ 1000)
    (KI : ∀ k, k < 5 → ∀ w', Ext w w' → Calls Tryd.prog 6 #[.int .i64 (sumNum nf nt nm na nc k)] w' fun e w'' => e = .returned (.string (ds (sumNum nf nt nm na nc k))) ∧ Ext w' w'')
    (KL : ∀ w', Ext w w' → Calls Tryd.prog 15 #[.slice xc nc cc] w' fun e w'' => e = .returned (.tuple #[.int .i64 z, .bool ok]) ∧ Ext w' w'')
    (KM : ok = true → ∀ w', Ext w w' → Calls Tryd.prog 5 #[.int .i64 z] w' fun e w'' => e = .returned (.string ms) ∧ Ext w' w'') :
    Calls Tryd.prog 7 #[ResV (.slice xf nf cf) (.slice xt nt ct) (.slice xm nm cm) (.slice xa na ca) (.slice xc nc cc)] w fun e w' => e = .returned (.string (sumAcc (sumNum nf nt nm na nc) ds 5 ++ sumLast ok ms)) ∧ Ext w w' := by
  have HI := Lib.hid KI; have HL := Lib.hid KL; have HM := Lib.hid KM; have HDS := Lib.hid hds
  clear KI KL KM hds
  unfold ResV
  go_enter Tryd.func7, Tryd.ntmps7
  obtain ⟨W1, hW1, hb1, hE1, hz1⟩ := row_alloc w #[.int .i64 0, .slice xf nf cf, .int .i64 0, .int .i64 0, .int .i64 0, .int .i64 0, .int .i64 0, .int .i64 0, .slice none 0 0, .int .i64 0, .slice xt nt ct, .string ⟨#[]⟩, .slice xm nm cm, .slice xa na ca, .slice xc nc cc] 37
  have hbd := Lib.fresh_isBuilder 65 5 W1
  obtain ⟨W2, hW2, hb2, hE2, hz2⟩ := row_alloc W1 #[.pointer none, .slice none 0 0] 65
  rw [hW2] at hbd
  rw [hz1] at hbd hz2
  have hb1' := heap_ext hE2 hb1
  have f1 := Lib.cell_of_heap hb1' 1; have f10 := Lib.cell_of_heap hb1' 10; have f12 := Lib.cell_of_heap hb1' 12; have f13 := Lib.cell_of_heap hb1' 13; have f14 := Lib.cell_of_heap hb1' 14
  simp only [List.getElem?_toArray, List.getElem?_cons_succ, List.getElem?_cons_zero] at f1 f10 f12 f13 f14
  obtain ⟨W3, hW3, hb3, hE3, hz3⟩ := row_alloc W2 #[.string ⟨#[102, 101, 97, 116, 117, 114, 101, 115]⟩, .int .i64 nf, .string ⟨#[116, 111, 111, 108, 115]⟩, .int .i64 nt, .string ⟨#[109, 111, 116, 105, 111, 110, 115]⟩, .int .i64 nm, .string ⟨#[102, 97, 117, 108, 116, 115]⟩, .int .i64 na, .string ⟨#[99, 117, 116, 115]⟩, .int .i64 nc] 66
  rw [hz2] at hb3
  have HB1 := Lib.hid (heap_ext hE3 hb1'); have HBD := Lib.hid (bld_ext hbd hE3); have HB3 := Lib.hid hb3
  have HE3 := Lib.hid ((hE1.trans hE2).trans hE3)
  have HZ3 : Hid (w.heap.size + 1 ≤ W3.heap.size) := Lib.hid (by omega)
  clear hb1 hb2 hb3 hbd hb1' hE1 hE2 hE3 hz3
  go_wp2_with fail
  clear f1 f10 f12 f13 f14 hW1 hW2 hW3 hz1 hz2
  have hrc : ∀ k, k < 5 → (#[.string ⟨#[102, 101, 97, 116, 117, 114, 101, 115]⟩, .int .i64 nf, .string ⟨#[116, 111, 111, 108, 115]⟩, .int .i64 nt, .string ⟨#[109, 111, 116, 105, 111, 110, 115]⟩, .int .i64 nm, .string ⟨#[102, 97, 117, 108, 116, 115]⟩, .int .i64 na, .string ⟨#[99, 117, 116, 115]⟩, .int .i64 nc] : Array Value)[k * 2]? = some (.string (sumName k)) ∧ (#[.string ⟨#[102, 101, 97, 116, 117, 114, 101, 115]⟩, .int .i64 nf, .string ⟨#[116, 111, 111, 108, 115]⟩, .int .i64 nt, .string ⟨#[109, 111, 116, 105, 111, 110, 115]⟩, .int .i64 nm, .string ⟨#[102, 97, 117, 108, 116, 115]⟩, .int .i64 na, .string ⟨#[99, 117, 116, 115]⟩, .int .i64 nc] : Array Value)[k * 2 + 1]? = some (.int .i64 (sumNum nf nt nm na nc k)) := by
    intro k hk
    have : k = 0 ∨ k = 1 ∨ k = 2 ∨ k = 3 ∨ k = 4 := by omega
    rcases this with rfl | rfl | rfl | rfl | rfl <;> exact ⟨rfl, rfl⟩
  have hbc : (#[.int .i64 0, .slice xf nf cf, .int .i64 0, .int .i64 0, .int .i64 0, .int .i64 0, .int .i64 0, .int .i64 0, .slice none 0 0, .int .i64 0, .slice xt nt ct, .string ⟨#[]⟩, .slice xm nm cm, .slice xa na ca, .slice xc nc cc] : Array Value)[14]? = some (.slice xc nc cc) := rfl
  have HRC := Lib.hid hrc; have HBC := Lib.hid hbc
  clear hrc hbc
  generalize (#[.string ⟨#[102, 101, 97, 116, 117, 114, 101, 115]⟩, .int .i64 nf, .string ⟨#[116, 111, 111, 108, 115]⟩, .int .i64 nt, .string ⟨#[109, 111, 116, 105, 111, 110, 115]⟩, .int .i64 nm, .string ⟨#[102, 97, 117, 108, 116, 115]⟩, .int .i64 na, .string ⟨#[99, 117, 116, 115]⟩, .int .i64 nc] : Array Value) = RC at HRC HB3
  generalize (#[.int .i64 0, .slice xf nf cf, .int .i64 0, .int .i64 0, .int .i64 0, .int .i64 0, .int .i64 0, .int .i64 0, .slice none 0 0, .int .i64 0, .slice xt nt ct, .string ⟨#[]⟩, .slice xm nm cm, .slice xa na ca, .slice xc nc cc] : Array Value) = BC at HBC HB1
  generalize hnum : sumNum nf nt nm na nc = num at *
  have HNUM := Lib.hid hnum; clear hnum
  have HSZ := Lib.hid (sumAcc_size (num := num) HDS.out)
  go_loopw [32] (fun t wr => ∃ (k : Nat), k ≤ 5 ∧ t = .int .i64 k ∧ Hid (Ext w wr) ∧ Hid (Lib.IsBuilder 65 5 (w.heap.size + 1) (w.heap.size + 1) (Lib.strCells (sumAcc num ds k)) wr) ∧ Hid (wr.heap[w.heap.size + 1 + 1]? = some (.cells RC 66 (0, 0))) ∧ Hid (wr.heap[w.heap.size]? = some (.cells BC 37 (0, 0))) ∧ Hid (w.heap.size + 1 ≤ wr.heap.size)) (fun t _ => 5 - (intOf t).toNat)
  case atStart => exact ⟨0, by omega, rfl, HE3, HBD, HB3, HB1, HZ3⟩
  case round =>
    clear HE3 HBD HB3 HB1 HZ3
    obtain ⟨k, hk, rfl, HE, HB, HRW, HBX, HZ⟩ := hrel
    by_cases hlt : k < 5
    · obtain ⟨r0, r1⟩ := HRC.out k hlt
      have c0 : wr.cell? ⟨w.heap.size + 1 + 1, k * 2, none⟩ = some (.string (sumName k)) := by rw [Lib.cell_of_heap HRW.out]; exact r0
      have c1 : wr.cell? ⟨w.heap.size + 1 + 1, k * 2 + 1, none⟩ = some (.int .i64 (num k)) := by rw [Lib.cell_of_heap HRW.out]; exact r1
      have ki := fun (w' : World) (h : Ext wr w') => HI.out k hlt w' (HE.out.trans h)
      have KI := Lib.hid ki
      have HA : Hid (sumAcc num ds (k + 1) = sumAcc num ds k ++ (sumName k ++ ⟨#[32]⟩ ++ ds (num k) ++ ⟨#[10]⟩)) := Lib.hid rfl
      have hs1 := sumName_size k
      have hs2 := HDS.out (num k)
      have hs3 := HSZ.out k
      clear r0 r1 ki
      generalize ds (num k) = dk at *
      generalize sumName k = sk at *
      generalize (num k : Int) = nk at *
      have hz1 : (ByteArray.mk #[32]).size = 1 := rfl
      have hz2 : (ByteArray.mk #[10]).size = 1 := rfl
      have ha1 := fun wx => run_string_add (P := Tryd.prog) wx sk ⟨#[32]⟩ (by omega) (by omega)
      have ha2 := fun wx => run_string_add (P := Tryd.prog) wx (sk ++ ⟨#[32]⟩) dk (by rw [ByteArray.size_append]; omega) (by omega)
      have ha3 := fun wx => run_string_add (P := Tryd.prog) wx (sk ++ ⟨#[32]⟩ ++ dk) ⟨#[10]⟩ (by rw [ByteArray.size_append, ByteArray.size_append]; omega) (by omega)
      obtain ⟨V, hV, hbV, hEV⟩ := ln_alloc wr sk nk 66
      have HBV := Lib.hid hbV; have HEV := Lib.hid hEV
      clear hbV hEV
      go_wp2_with fail
      clear c0 c1 hV
      have d0 : V.drew.cell? ⟨wr.heap.size, 0, none⟩ = some (.string sk) := by show V.cell? _ = _; rw [Lib.cell_of_heap HBV.out]; rfl
      have d1 : V.drew.cell? ⟨wr.heap.size, 1, none⟩ = some (.int .i64 nk) := by show V.cell? _ = _; rw [Lib.cell_of_heap HBV.out]; rfl
      have hne : Nonempty (LnC wr.heap.size sk nk) := ⟨⟨_, d0, d1⟩⟩
      have g0 := LnC.c0 (A := wr.heap.size) (s := sk) (n := nk); have g1 := LnC.c1 (A := wr.heap.size) (s := sk) (n := nk)
      refine wp_region_tree (fun w' => ∃ y : LnC wr.heap.size sk nk, w' = y.w) 9 (.one [0, 1, 2, 3, 4] 5 (.one [6, 7] 8 (.leaf []))) (by kernel_rfl) (by kernel_rfl) (by kernel_rfl) ⟨⟨_, d0, d1⟩, rfl⟩ ?_
      simp only [List.take_succ_cons, List.take_zero]
      refine tree_one fun K hK => ?_
      simp only [List.map_cons, List.map_nil, pickOp, List.getElem?_cons_zero, List.getElem?_cons_succ, Option.getD_some]
      repeat (go_big_quiet_step (fail))
      refine wpQuiet_nil ?_
      clear g0 g1 hne
      have HZV : Hid (w.heap.size + 1 ≤ V.heap.size) := Lib.hid (by have := HZ.out; have := HEV.out.size; omega)
      go_wp2_with ((go_at_call 6; with_reducible refine (KI.out _ (HEV.out.drew)).mono ?_); rintro e V2 ⟨rfl, hx2⟩)
      have hVV : Ext V V2 := (Ext.refl V).drew.trans hx2
      have hb2 := heap_ext hVV HBV.out
      have q0 : V2.cell? ⟨wr.heap.size, 0, none⟩ = some (.string sk) := by rw [Lib.cell_of_heap hb2]; rfl
      have q1 : V2.cell? ⟨wr.heap.size, 1, none⟩ = some (.int .i64 nk) := by rw [Lib.cell_of_heap hb2]; rfl
      refine onlyK_normal (hK _ _ ⟨⟨_, q0, q1⟩, rfl⟩ ?_); clear hK K
      refine tree_one fun K hK => ?_
      simp only [List.map_cons, List.map_nil, pickOp, List.getElem?_cons_zero, List.getElem?_cons_succ, Option.getD_some]
      have hne : Nonempty (LnC wr.heap.size sk nk) := ⟨⟨_, q0, q1⟩⟩
      repeat (go_big_quiet_step (fail))
      refine wpQuiet_nil ?_
      clear hne
      have hEx := HEV.out.trans hVV
      have HB2 := Lib.hid (bld_ext HB.out hEx)
      have KW := Lib.hid (bld_write (w.heap.size + 1) (w.heap.size + 1) _ (sk ++ ⟨#[32]⟩ ++ dk ++ ⟨#[10]⟩) V2 HB2.out (by rw [Lib.strCells_length]; simp only [ByteArray.size_append]; omega) (by have := HZV.out; have := hVV.size; omega))
      go_wp2_with ((go_at_call 14; with_reducible refine (KW.out).mono ?_); rintro e V3 ⟨rfl, hB3, hb3, hst3⟩)
      have hRW := heap_ext hEx HRW.out
      have hBX := heap_ext hEx HBX.out
      have hwl : w.heap.size + 1 ≤ wr.heap.size := HZ.out
      have hn2 : wr.heap.size ≠ w.heap.size + 1 := by
        have := bld_lt HB.out; omega
      have e1 := (hst3 _ _ _ _ hb2 (by decide) hn2).trans hb2
      have e2 := (hst3 _ _ _ _ hRW (by decide) (by omega)).trans hRW
      have e3 := (hst3 _ _ _ _ hBX (by decide) (by omega)).trans hBX
      have s0 : V3.cell? ⟨wr.heap.size, 0, none⟩ = some (.string sk) := by rw [Lib.cell_of_heap e1]; rfl
      have s1 : V3.cell? ⟨wr.heap.size, 1, none⟩ = some (.int .i64 nk) := by rw [Lib.cell_of_heap e1]; rfl
      refine onlyK_normal (hK _ _ ⟨⟨_, s0, s1⟩, rfl⟩ ?_); clear hK K
      refine tree_leaf0 ?_
      simp only [List.drop_succ_cons, List.drop_zero]
      go_wp2
      go_roundw
      case rel =>
        refine ⟨k + 1, by omega, by go_num, Lib.hid (below_ext (HE.out.trans hEx) hb3 (by omega)), Lib.hid ?_, Lib.hid e2, Lib.hid e3, Lib.hid (by have := HZV.out; have := hVV.size; have := hb3.size; omega)⟩
        rw [HA.out, strCells_add]
        exact hB3
      case measure => simp [intOf]; omega
    · obtain rfl : k = 5 := by omega
      have c14 : wr.cell? ⟨w.heap.size, 14, none⟩ = some (.slice xc nc cc) := by rw [Lib.cell_of_heap HBX.out]; exact HBC.out
      have HSZ5 := HSZ.out 5
      have KL := Lib.hid (HL.out wr HE.out)
      have HB1 := HB
      clear HB HBX HRW HRC hlt hk HDS HI HBC HSZ
      generalize hacc : sumAcc num ds 5 = acc at *
      have HACC := Lib.hid hacc; clear hacc
      cases ok
      · go_wp2_with ((go_at_call 15; with_reducible refine (KL.out).mono ?_); rintro e V ⟨rfl, hx⟩)
        have KW := Lib.hid (bld_write (w.heap.size + 1) (w.heap.size + 1) _ (⟨#[108, 111, 119, 101, 115, 116, 32]⟩ ++ ⟨#[110, 111, 110, 101]⟩ ++ ⟨#[10]⟩) V (bld_ext HB1.out hx) (by rw [Lib.strCells_length]; have : (ByteArray.mk #[108, 111, 119, 101, 115, 116, 32] ++ ByteArray.mk #[110, 111, 110, 101] ++ ByteArray.mk #[10]).size = 12 := rfl; omega) (by have := HZ.out; have := hx.size; omega))
        refine KW.out.mono ?_
        rintro e V3 ⟨rfl, hB3, hb3, hst3⟩
        have hE3 := below_ext ((HE.out).trans hx) hb3 (by omega)
        rw [← strCells_add] at hB3
        generalize hT : acc ++ _ = tot at hB3
        have HT : Hid (acc ++ sumLast false ms = tot) := Lib.hid hT
        clear hT
        rw [Lib.strCells_eq] at hB3
        have ks := Tryd.Builder_String_any (w.heap.size + 1) (w.heap.size + 1) _ V3 hB3 (by have := HZ.out; have := hx.size; have := hb3.size; omega)
        rw [str_back] at ks
        have KS := Lib.hid ks; clear ks
        clear hB3 hst3 KW KL
        go_wp2_with ((go_at_call 16; with_reducible refine (KS.out).mono ?_); rintro e V4 ⟨rfl, hb4⟩)
        go_ret
        rw [HNUM.out, HACC.out, HT.out]
        exact ⟨rfl, below_ext hE3 hb4 (by omega)⟩
      · have KMM := Lib.hid (HM.out rfl)
        have hz1 : (ByteArray.mk #[108, 111, 119, 101, 115, 116, 32]).size = 7 := rfl
        have hz2 : (ByteArray.mk #[10]).size = 1 := rfl
        have ha1 := fun wx => run_string_add (P := Tryd.prog) wx ⟨#[108, 111, 119, 101, 115, 116, 32]⟩ ms (by omega) (by omega)
        have ha2 := fun wx => run_string_add (P := Tryd.prog) wx (⟨#[108, 111, 119, 101, 115, 116, 32]⟩ ++ ms) ⟨#[10]⟩ (by rw [ByteArray.size_append]; omega) (by omega)
        go_wp2_with ((go_at_call 15; with_reducible refine (KL.out).mono ?_); rintro e V ⟨rfl, hx⟩)
        refine (KMM.out V (HE.out.trans hx)).mono ?_
        rintro e V2 ⟨rfl, hx2⟩
        have hxx := hx.trans hx2
        have KW := Lib.hid (bld_write (w.heap.size + 1) (w.heap.size + 1) _ (⟨#[108, 111, 119, 101, 115, 116, 32]⟩ ++ ms ++ ⟨#[10]⟩) V2 (bld_ext HB1.out hxx) (by rw [Lib.strCells_length]; simp only [ByteArray.size_append]; omega) (by have := HZ.out; have := hxx.size; omega))
        go_wp2_with fail
        refine KW.out.mono ?_
        rintro e V3 ⟨rfl, hB3, hb3, hst3⟩
        have hE3 := below_ext ((HE.out).trans hxx) hb3 (by omega)
        rw [← strCells_add] at hB3
        generalize hT : acc ++ _ = tot at hB3
        have HT : Hid (acc ++ sumLast true ms = tot) := Lib.hid hT
        clear hT
        rw [Lib.strCells_eq] at hB3
        have ks := Tryd.Builder_String_any (w.heap.size + 1) (w.heap.size + 1) _ V3 hB3 (by have := HZ.out; have := hxx.size; have := hb3.size; omega)
        rw [str_back] at ks
        have KS := Lib.hid ks; clear ks
        clear hB3 hst3 KW KL
        go_wp2_with ((go_at_call 16; with_reducible refine (KS.out).mono ?_); rintro e V4 ⟨rfl, hb4⟩)
        go_ret
        rw [HNUM.out, HACC.out, HT.out]
        exact ⟨rfl, below_ext hE3 hb4 (by omega)⟩

end Go.Proofs.YtjibcnnbclcboaaDoor

namespace Go.Proofs.YtjibcnnbclcboaaDoor
open Go.RowKit
set_option maxRecDepth 8000
set_option maxRecDepth 8000

set_option maxHeartbeats 1000000 in
theorem lowest_nil (w : World) : Calls Tryd.prog 15 #[.slice none 0 0] w fun e w' => e = .returned (.tuple #[.int .i64 0, .bool false]) ∧ Ext w w' := by
  go_enter Tryd.func15, Tryd.ntmps15
  go_wp2
  go_ret2
  exact ⟨rfl, Ext.refl w⟩

set_option maxHeartbeats 1000000 in
theorem jsafe_any (vf vt : Value) (xm xa : Option Addr) (nm na cm ca : Nat) (vc : Value) (w : World) :
    Calls Tryd.prog 8 #[ResV vf vt (.slice xm nm cm) (.slice xa na ca) vc] w fun e w' => e = .returned (.bool (decide (na = 0) && decide (0 < nm))) ∧ Ext w w' := by
  unfold ResV
  obtain ⟨W1, hW1, hb1, hE1, hz1⟩ := row_alloc w #[.int .i64 0, vf, .int .i64 0, .int .i64 0, .int .i64 0, .int .i64 0, .int .i64 0, .int .i64 0, .slice none 0 0, .int .i64 0, vt, .string ⟨#[]⟩, .slice xm nm cm, .slice xa na ca, vc] 37
  have f12 := Lib.cell_of_heap hb1 12; have f13 := Lib.cell_of_heap hb1 13
  simp only [List.getElem?_toArray, List.getElem?_cons_succ, List.getElem?_cons_zero] at f12 f13
  clear hb1 hz1
  by_cases ha : na = 0
  · subst ha
    by_cases hm : 0 < nm
    · have hq : decide ((nm : Int) > 0) = true := by simp; omega
      have hr : (decide ((0 : Nat) = 0) && decide (0 < nm)) = true := by simp [hm]
      rw [hr]
      go_enter Tryd.func8, Tryd.ntmps8
      go_wp2
      go_ret
      exact ⟨rfl, hE1⟩
    · obtain rfl : nm = 0 := by omega
      go_enter Tryd.func8, Tryd.ntmps8
      go_wp2
      go_ret
      exact ⟨rfl, hE1⟩
  · have hq : ((na : Int) == 0) = false := by simp; omega
    have hr : (decide (na = 0) && decide (0 < nm)) = false := by simp [ha]
    rw [hr]
    go_enter Tryd.func8, Tryd.ntmps8
    go_wp2
    go_ret
    exact ⟨rfl, hE1⟩

theorem itoa0 (k : Nat) (w : World) : Calls Tryd.prog 6 #[.int .i64 (sumNum 0 0 0 0 0 k)] w fun e w'' => e = .returned (.string ⟨#[48]⟩) ∧ Ext w w'' := by
  have h : sumNum 0 0 0 0 0 k = 0 := by unfold sumNum; split <;> rfl
  rw [h]
  exact (Tryd.strconv_Itoa_small 0 (by decide) w).mono fun _ _ k => ⟨k.1.trans (by rw [show Lib.decDigits 0 = [48] by unfold Lib.decDigits; rfl]), by rw [k.2]; exact Ext.refl w⟩

theorem summary_zero (w : World) : Calls Tryd.prog 7 #[ResV (.slice none 0 0) (.slice none 0 0) (.slice none 0 0) (.slice none 0 0) (.slice none 0 0)] w fun e w' => e = .returned (.string ⟨#[102, 101, 97, 116, 117, 114, 101, 115, 32, 48, 10, 116, 111, 111, 108, 115, 32, 48, 10, 109, 111, 116, 105, 111, 110, 115, 32, 48, 10, 102, 97, 117, 108, 116, 115, 32, 48, 10, 99, 117, 116, 115, 32, 48, 10, 108, 111, 119, 101, 115, 116, 32, 110, 111, 110, 101, 10]⟩) ∧ Ext w w' := by
  have := summary_any none none none none none 0 0 0 0 0 0 0 0 0 0 (fun _ => ⟨#[48]⟩) 0 false ⟨#[]⟩ w (fun _ => by decide) (by decide) (fun k _ w' _ => itoa0 k w') (fun w' _ => lowest_nil w') (fun h => by cases h)
  exact this

theorem slM_row {w : World} {b : Nat} {m : Mot} (h : w.heap[b]? = some (.cells #[.int .i64 m.fx, .int .i64 m.fy, .int .i64 m.fz, .int .i64 m.tx, .int .i64 m.ty, .int .i64 m.tz, .int .i64 m.rate, .int .i64 m.tool, .int .i64 m.block] 49 (0, 0))) (hb : b < w.heap.size) : SlM w (.slice (some ⟨b, 0, none⟩) 1 1) [m] := by
  refine ⟨_, 1, 1, b, 0, rfl, rfl, .inr rfl, (fun e => by cases e), fun i hi => ⟨hb, ?_⟩⟩
  obtain rfl : i = 0 := by omega
  constructor <;> (rw [Lib.cell_of_heap h]; rfl)
theorem slE_row {w : World} {b : Nat} {x y : Int} {t : TypeId} (h : w.heap[b]? = some (.cells #[.int .i64 x, .int .i64 y] t (0, 0))) (hb : b < w.heap.size) : SlE w (.slice (some ⟨b, 0, none⟩) 1 1) [(x, y)] := by
  refine ⟨_, 1, 1, b, 0, rfl, rfl, .inr rfl, Nat.le_refl _, fun i hi => ?_⟩
  obtain rfl : i = 0 := by omega
  refine ⟨hb, ?_, ?_⟩ <;> (rw [Lib.cell_of_heap h]; rfl)

set_option maxHeartbeats 8000000 in
theorem awake_any (w : World) : Calls Tryd.prog 4 #[] w fun e w' => e = .returned (.bool true) ∧ Ext w w' := by
  go_enter Tryd.func4, Tryd.ntmps4
  go_wp2_with fail
  obtain ⟨W1, hW1, hb1, hE1, hz1⟩ := row_alloc w #[.int .i64 1000, .int .i64 0, .int .i64 0] 40
  obtain ⟨W2, hW2, hb2, hE2, hz2⟩ := row_alloc W1 #[.int .i64 0, .int .i64 0, .int .i64 0, .int .i64 1000, .int .i64 0, .int .i64 0, .int .i64 1000000, .int .i64 0, .int .i64 0] 49
  rw [hz1] at hb2 hz2
  have S2 : SlM W2 (.slice (some ⟨w.heap.size + 1, 0, none⟩) 1 1) awL := slM_row hb2 (by omega)
  have HS2 := Lib.hid S2; have HB1 := Lib.hid (heap_ext hE2 hb1); have HE2 := Lib.hid (hE1.trans hE2); have HB2 := Lib.hid hb2
  rw [hW1, hW2]
  clear S2 hb1 hb2 hE1 hE2 hW1 hW2 hz1 hz2
  refine (limits_any 100 W2).mono ?_
  rintro e W3 ⟨rfl, hx3⟩
  obtain ⟨W4, hW4, hb4, hE4, hz4⟩ := row_alloc W3 #[.int .i64 3, .int .i64 5] 57
  have K1 := jdist_any (.slice (some ⟨w.heap.size + 1, 0, none⟩) 1 1) (.slice (some ⟨W3.heap.size, 0, none⟩) 1 1) awL [(3, 5)] 100 100 100 5000 W4 (HS2.out.later (hx3.trans hE4)) (slE_row hb4 (by omega)) (by decide) (by decide) aw_wf ⟨by decide, by decide⟩
  rw [aw1] at K1
  have HK1 := Lib.hid K1; clear K1 hb4 hz4
  go_wp2_with fail
  clear hW4
  refine HK1.out.mono ?_
  rintro e W5 ⟨v1, rfl, S5, hx5, -⟩
  have HX5 := Lib.hid ((hx3.trans hE4).trans hx5)
  have HS5 := Lib.hid S5; clear S5 HK1 hx3 hE4 hx5
  go_wp2_with fail
  refine (limits_any 100 W5).mono ?_
  rintro e W6 ⟨rfl, hx6⟩
  obtain ⟨W7, hW7, hb7, hE7, hz7⟩ := row_alloc W6 #[.int .i64 3, .int .i64 0] 57
  have K2 := jdist_any (.slice (some ⟨w.heap.size + 1, 0, none⟩) 1 1) (.slice (some ⟨W6.heap.size, 0, none⟩) 1 1) awL [(3, 0)] 100 100 100 5000 W7 (HS2.out.later ((HX5.out.trans hx6).trans hE7)) (slE_row hb7 (by omega)) (by decide) (by decide) aw_wf ⟨by decide, by decide⟩
  rw [aw2] at K2
  have HK2 := Lib.hid K2; clear K2 hb7 hz7
  go_wp2_with fail
  clear hW7
  refine HK2.out.mono ?_
  rintro e W8 ⟨v2, rfl, S8, hx8, -⟩
  have hx58 := (hx6.trans hE7).trans hx8
  have hx28 := HX5.out.trans hx58
  have S5' := HS5.out.later hx58
  clear HK2 hx6 hE7 hx8
  obtain ⟨a1, n1, k1, b1, o1, rfl, rfl, h31, -, h41⟩ := S5'
  obtain rfl : a1 = some ⟨b1, o1, none⟩ := h31.resolve_left (by decide)
  obtain ⟨a2, n2, k2, b2, o2, rfl, rfl, h32, -, h42⟩ := S8
  obtain rfl : a2 = some ⟨b2, o2, none⟩ := h32.resolve_left (by decide)
  have m0 : CellsM W8 b1 o1 (⟨0, 0, 0, 300, 0, 0, 1000000, 0, 0⟩ : Mot) := (h41 0 (by decide)).2
  have m1 : CellsM W8 b1 (o1 + 9) (⟨300, 0, 0, 1000, 0, 0, 1000000, 0, 0⟩ : Mot) := (h41 1 (by decide)).2
  have q0 : CellsM W8 b2 o2 (⟨0, 0, 0, 300, 0, 0, 1000000, 0, 0⟩ : Mot) := (h42 0 (by decide)).2
  have q1 : CellsM W8 b2 (o2 + 9) (⟨300, 0, 0, 300, 0, 5000, 0, 0, 0⟩ : Mot) := (h42 1 (by decide)).2
  have q5 : CellsM W8 b2 (o2 + 45) (⟨0, 0, 0, 1000, 0, 0, 1000000, 0, 0⟩ : Mot) := (h42 5 (by decide)).2
  have r1 := heap_ext hx28 HB1.out; have r2 := heap_ext hx28 HB2.out
  have HE8 := Lib.hid (HE2.out.trans hx28)
  clear h41 h42 h31 h32 HS5 HX5 HS2 HB1 HB2 hx58 hx28 HE2
  have z0 := Later.cell m0.c0; have z1 := Later.cell m0.c1; have z2 := Later.cell m0.c2
  have y3 := Later.cell m1.c3; have y4 := Later.cell m1.c4; have y5 := Later.cell m1.c5
  have x0 := Later.cell q5.c0; have x1 := Later.cell q5.c1; have x2 := Later.cell q5.c2; have x3 := Later.cell q5.c3; have x4 := Later.cell q5.c4; have x5 := Later.cell q5.c5; have x6 := Later.cell q5.c6; have x7 := Later.cell q5.c7; have x8 := Later.cell q5.c8
  have e0 := Later.block r1 0 (v := .int .i64 1000) rfl; have e1 := Later.block r1 1 (v := .int .i64 0) rfl; have e2 := Later.block r1 2 (v := .int .i64 0) rfl
  have g0 := Later.block r2 0 (v := .int .i64 0) rfl; have g1 := Later.block r2 1 (v := .int .i64 0) rfl; have g2 := Later.block r2 2 (v := .int .i64 0) rfl; have g3 := Later.block r2 3 (v := .int .i64 1000) rfl; have g4 := Later.block r2 4 (v := .int .i64 0) rfl; have g5 := Later.block r2 5 (v := .int .i64 0) rfl; have g6 := Later.block r2 6 (v := .int .i64 1000000) rfl; have g7 := Later.block r2 7 (v := .int .i64 0) rfl; have g8 := Later.block r2 8 (v := .int .i64 0) rfl
  have HQ := Lib.hid (And.intro q0 q1)
  clear r1 r2 m0 m1 q0 q1 q5
  have hn1 : ∀ w, (binOp .neq 40 (Ps 0 0 0) (Ps 0 0 0)).run Tryd.prog w = .ok (.bool false) w := fun w => Tryd.neq_pos 0 0 0 0 0 0 w
  have hn2 : ∀ w, (binOp .neq 40 (Ps 1000 0 0) (Ps 1000 0 0)).run Tryd.prog w = .ok (.bool false) w := fun w => Tryd.neq_pos 1000 0 0 1000 0 0 w
  have hn3 : ∀ w, (binOp .neq 49 (Mv ⟨0, 0, 0, 1000, 0, 0, 1000000, 0, 0⟩) (Mv ⟨0, 0, 0, 1000, 0, 0, 1000000, 0, 0⟩)).run Tryd.prog w = .ok (.bool false) w := fun w => by rw [Tryd.neq_mot]; simp
  rw [show awM.length = 2 from rfl, show awN.length = 6 from rfl]
  go_wp2_with fail
  refine wp_region_later (by kernel_rfl) (by kernel_rfl) ?_
  repeat (go_big_quiet_step (fail))
  refine wpQuiet_nil ?_
  rintro _ ⟨x9, rfl⟩
  clear z0 z1 z2 y3 y4 y5 x0 x1 x2 x3 x4 x5 x6 x7 x8 e0 e1 e2 g0 g1 g2 g3 g4 g5 g6 g7 g8 hn1 hn2 hn3
  have u0 := Later.cell (Later.cell HQ.out.2.c3 x9); have u1 := Later.cell (Later.cell HQ.out.2.c4 x9); have u2 := Later.cell (Later.cell HQ.out.2.c5 x9)
  have u3 := Later.cell (Later.cell HQ.out.1.c3 x9)
  have hn4 : ∀ w, (binOp .eql 40 (Ps 300 0 5000) (Ps 300 0 5000)).run Tryd.prog w = .ok (.bool true) w := fun w => Tryd.eql_pos 300 0 5000 300 0 5000 w
  have KS : ∀ w', Calls Tryd.prog 8 #[.agg #[.int .i64 0, .slice none 0 0, .int .i64 0, .int .i64 0, .int .i64 0, .int .i64 0, .int .i64 0, .int .i64 0, .slice none 0 0, .int .i64 0, .slice none 0 0, .string ⟨#[]⟩, .slice none 0 0, .slice none 0 0, .slice none 0 0]] w' fun e w'' => e = .returned (.bool false) ∧ Ext w' w'' := fun w' => jsafe_any (.slice none 0 0) (.slice none 0 0) none none 0 0 0 0 (.slice none 0 0) w'
  have KM : ∀ w', Calls Tryd.prog 7 #[.agg #[.int .i64 0, .slice none 0 0, .int .i64 0, .int .i64 0, .int .i64 0, .int .i64 0, .int .i64 0, .int .i64 0, .slice none 0 0, .int .i64 0, .slice none 0 0, .string ⟨#[]⟩, .slice none 0 0, .slice none 0 0, .slice none 0 0]] w' fun e w'' => e = .returned (.string ⟨#[102, 101, 97, 116, 117, 114, 101, 115, 32, 48, 10, 116, 111, 111, 108, 115, 32, 48, 10, 109, 111, 116, 105, 111, 110, 115, 32, 48, 10, 102, 97, 117, 108, 116, 115, 32, 48, 10, 99, 117, 116, 115, 32, 48, 10, 108, 111, 119, 101, 115, 116, 32, 110, 111, 110, 101, 10]⟩) ∧ Ext w' w'' := fun w' => summary_zero w'
  have HKS := Lib.hid KS; have HKM := Lib.hid KM
  clear KS KM HQ
  go_wp2_with fail
  refine wp_region_later (by kernel_rfl) (by kernel_rfl) ?_
  repeat (go_big_quiet_step (first | (go_at_call 8; exact Calls.later (HKS.out _)) | (go_at_call 7; exact Calls.later (HKM.out _))))
  refine wpQuiet_nil ?_
  rintro _ ⟨x10, rfl⟩
  go_wp2
  go_ret
  exact ⟨rfl, (HE8.out.trans x9.ext).trans x10.ext⟩

end Go.Proofs.YtjibcnnbclcboaaDoor
