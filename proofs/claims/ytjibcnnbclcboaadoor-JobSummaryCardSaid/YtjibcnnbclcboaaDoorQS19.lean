/-
  Walks: strconv.Itoa, strconv.FormatUint at base 10, decimal.Millimetres: the texts of numbers, given the table of powers of ten.
  Walk: decimal.Millimetres: the text of a length.
  A region that draws its order, walked as a flow of data: each operation is looked at alone, from any frame in which what it waits for is as it should be; nothing is said of the order.
-/
import Derived.Test.YtjibcnnbclcboaaDoorQS18
import Derived.Lib.ItoaMem
import Derived.Test.YtjibcnnbclcboaaDoorQS02
namespace Go.Proofs.YtjibcnnbclcboaaDoor
open Go.RowKit Go.Sort Go.Lib
set_option maxRecDepth 100000

theorem tabIs_ext {w w' : World} {name : String} {k : IntKind} {zs : List Int} (h : Lib.TabIs Tryd.prog w name k zs) (x : Ext w w') : Lib.TabIs Tryd.prog w' name k zs := by
  unfold Lib.TabIs World.var? at *
  cases hg : Tryd.prog.globalNamed name with
  | none => simp [hg] at h
  | some g =>
    simp only [hg, Option.bind_some] at h ⊢
    have hlt : g < w.heap.size := by
      rcases Nat.lt_or_ge g w.heap.size with h' | h'
      · exact h'
      · rw [Array.getElem?_eq_none h'] at h; simp at h
    rw [x.out.block g hlt]
    exact h
def Tab (w : World) : Prop := Lib.TabIs Tryd.prog w "internal/strconv.uint64pow10" .u64 Lib.pow10Tab
theorem Tab.ext {w w' : World} (h : Tab w) (x : Ext w w') : Tab w' := tabIs_ext h x

theorem ext_grow (w : World) (k : Nat) (os : Array Obj) : Ext w (grow (w.drewN k) os) := by
  refine ⟨rfl, rfl, rfl, ?_, fun i hi => ?_⟩
  · show w.heap.size ≤ (w.heap ++ os).size
    simp
  · exact heap_grow_old w os hi

theorem itoa_any (n : Int) (w : World) (h0 : -9223372036854775808 ≤ n) (h1 : n ≤ 9223372036854775807) (ht : Tab w) :
    Calls Tryd.prog 6 #[.int .i64 n] w fun e w' => e = .returned (.string ⟨(Lib.itoa n).toArray⟩) ∧ Ext w w' :=
  (Tryd.strconv_Itoa n h0 h1 w ht).mono fun _ _ ⟨e, k, os, h⟩ => ⟨e, by rw [h]; exact ext_grow w k os⟩

theorem holds_zero0 (w : World) (T : TypeId) (nd : Nat) (hs : nd ≤ 24) : Holds (fun (b : UInt8) => Value.int .u8 (b.toNat : Int)) (w.alloc (.cells zeros24 T)) w.heap.size 0 (Array.replicate nd (0 : UInt8)) := fun j hj => by
  have hj' : j < nd := by simpa using hj
  refine ⟨?_, World.frozen?_alloc_new _ _ _ _⟩
  rw [World.cell?_alloc_new, zeros24_at _ (by omega), getElem!_pos _ j hj]
  simp
theorem fin_row (w : World) (o : Obj) (dk : Array UInt8) (k : Nat) : Ext w ((putRow (fun (b : UInt8) => Value.int .u8 (b.toNat : Int)) (w.alloc o) w.heap.size 0 dk).drewN k) := by
  rw [alloc_eq_grow]
  obtain ⟨os', _, e⟩ := putRow_grow_new (fun (b : UInt8) => Value.int .u8 (b.toNat : Int)) w #[o] w.heap.size 0 dk (Nat.le_refl _)
  rw [e]
  exact ext_grow w k os'

set_option maxHeartbeats 4000000 in
theorem fmtU_small (u : Nat) (hu : u < 100) (w : World) : Calls Tryd.prog 25 #[.int .u64 u, .int .i64 10] w fun e w' => e = .returned (.string ⟨(Lib.decDigits u).toArray⟩) ∧ Ext w w' := by
  go_enter Tryd.func25, Tryd.ntmps25
  go_wp2_with (go_at_call 42; with_reducible refine (Tryd.internal_strconv_small u hu _).mono ?_; rintro e w' ⟨rfl, rfl⟩)
  go_ret
  exact ⟨rfl, Ext.refl _⟩

set_option maxHeartbeats 8000000 in
theorem fmtU_big (u : Nat) (h1 : 100 ≤ u) (hu64 : u < 18446744073709551616) (w : World) (ht : Tab w) : Calls Tryd.prog 25 #[.int .u64 u, .int .i64 10] w fun e w' => e = .returned (.string ⟨(Lib.decDigits u).toArray⟩) ∧ Ext w w' := by
  have hnd20 : Lib.nDigits u ≤ 20 := by have := Lib.numDigits_eq u (by omega) hu64; split at this <;> omega
  have hb3 : Lib.nDigits u ≤ 24 := by omega
  have hal : Tryd.prog.arrayLen 106 = 24 := by kernel_rfl
  have hsl : ∀ W, (Instr.sliceAt 106 (.pointer (some ⟨w.heap.size, 0, none⟩)) none (some (.int .i64 (Lib.nDigits u : Int))) none).run Tryd.prog W = .ok (.slice (some ⟨w.heap.size, 0, none⟩) (Lib.nDigits u) 24) W := fun W => by
    rw [run_sliceAt_array_h W 106 ⟨w.heap.size, 0, none⟩ (by kernel_rfl) .i64 (Lib.nDigits u : Int) (by omega) (by rw [hal]; omega)]
    rw [hal]
    go_simp
  have hH0 := holds_zero0 w 106 (Lib.nDigits u) hb3
  have hfmt := Tryd.internal_strconv_formatBase10 w.heap.size 0 24 u (Array.replicate (Lib.nDigits u) 0) (w.alloc (.cells Lib.zeros24 106)) hH0 (by rw [Array.size_replicate]; exact Lib.lt_pow_nDigits u) hu64 (by rw [Array.size_replicate]; omega)
  rw [Array.size_replicate] at hfmt
  have HH0 := Lib.hid hH0
  have HF := Lib.hid hfmt
  have HT := Lib.hid (tabIs_alloc ht (.cells Lib.zeros24 106))
  clear hH0 hal hfmt ht
  go_enter Tryd.func25, Tryd.ntmps25
  go_wp2_with (go_at_call 43; refine (Tryd.internal_strconv_numDigits u (by omega) hu64 _ HT.out).mono ?_; rintro e w' ⟨rfl, rfl⟩)
  go_at_call 44
  refine HF.out.mono ?_
  rintro e w' ⟨rfl, k, v', dk, rfl, hF⟩
  have hcv : (convert 63 9 (.slice (some ⟨w.heap.size, 0, none⟩) (Lib.nDigits u) 24)).run Tryd.prog ((putRow (fun (b : UInt8) => Value.int .u8 (b.toNat : Int)) (w.alloc (.cells Lib.zeros24 106)) w.heap.size 0 dk).drewN k) = .ok (.string ⟨(Lib.decDigits u).toArray⟩) ((putRow (fun (b : UInt8) => Value.int .u8 (b.toNat : Int)) (w.alloc (.cells Lib.zeros24 106)) w.heap.size 0 dk).drewN k) := by
    have h := run_convert_bytes_back (P := Tryd.prog) ((putRow (fun (b : UInt8) => Value.int .u8 (b.toNat : Int)) (w.alloc (.cells Lib.zeros24 106)) w.heap.size 0 dk).drewN k) 63 9 5 ⟨w.heap.size, 0, none⟩ 24 (Lib.decDigits u) Tryd.underlying63 Tryd.underlying5 Tryd.underlying9 (fun j hj => by
      rw [Lib.row_is_numeral hF j hj, Lib.add_plain, World.cell?_drewN]
      exact cell?_putRow (fun (b : UInt8) => Value.int .u8 (b.toNat : Int)) _ w.heap.size 0 _ dk HH0.out (by rw [hF.size, Array.size_replicate]) j (by rw [hF.size]; rw [Lib.decDigits_length] at hj; exact hj))
    rw [Lib.decDigits_length] at h
    exact h
  go_wp2
  go_ret
  exact ⟨rfl, fin_row _ _ _ _⟩

theorem fmtU_any (u : Nat) (hu : u < 18446744073709551616) (w : World) (ht : Tab w) : Calls Tryd.prog 25 #[.int .u64 u, .int .i64 10] w fun e w' => e = .returned (.string ⟨(Lib.decDigits u).toArray⟩) ∧ Ext w w' := by
  by_cases h : u < 100
  · exact fmtU_small u h w
  · exact fmtU_big u (by omega) hu w ht

set_option maxHeartbeats 1000000 in
theorem formatUint_any (u : Nat) (hu : u < 18446744073709551616) (w : World) (ht : Tab w) : Calls Tryd.prog 11 #[.int .u64 u, .int .i64 10] w fun e w' => e = .returned (.string ⟨(Lib.decDigits u).toArray⟩) ∧ Ext w w' := by
  go_enter Tryd.func11, Tryd.ntmps11
  go_wp2_with (go_at_call 25; with_reducible refine (fmtU_any u hu _ ht).mono ?_; rintro e w' ⟨rfl, hx⟩)
  go_ret
  exact ⟨rfl, hx⟩

/-- The text of a length of some micrometres. -/
def mmWhole (u : Nat) : ByteArray := ⟨(Lib.decDigits (u / 1000)).toArray⟩
def mmDigits (u : Nat) : ByteArray := ⟨(Lib.decDigits (1000 + u % 1000)).toArray⟩
def mmPart (u : Nat) : ByteArray := ⟨(Lib.trimRightB ((mmDigits u).extract 1 (mmDigits u).size).data.toList 48).toArray⟩
def mmSign (n : Int) : ByteArray := if n < 0 then ⟨#[45]⟩ else ⟨#[]⟩
def mmText (n : Int) : ByteArray :=
  if n.natAbs % 1000 = 0 then mmSign n ++ mmWhole n.natAbs else (mmSign n ++ mmWhole n.natAbs) ++ (⟨#[46]⟩ ++ mmPart n.natAbs)

theorem nDigits_le (u : Nat) (hu : u < 18446744073709551616) : Lib.nDigits u ≤ 20 := by
  by_cases h : u = 0
  · subst h; unfold Lib.nDigits; simp
  · have := Lib.numDigits_eq u (by omega) hu; split at this <;> omega
theorem dec_size (u : Nat) (hu : u < 18446744073709551616) : (ByteArray.mk (Lib.decDigits u).toArray).size ≤ 20 := by
  show (Lib.decDigits u).toArray.size ≤ 20
  rw [List.size_toArray, Lib.decDigits_length]
  exact nDigits_le u hu
theorem trim_size (l : List UInt8) (c : UInt8) : (Lib.trimRightB l c).length ≤ l.length := by
  unfold Lib.trimRightB
  rw [List.length_reverse]
  have := (List.dropWhile_suffix (l := l.reverse) (· == c)).length_le
  simpa using this
theorem ba_len (b : ByteArray) : b.data.toList.length = b.size := Array.length_toList
theorem mmPart_size (u : Nat) : (mmPart u).size ≤ 20 := by
  show (Lib.trimRightB _ 48).toArray.size ≤ 20
  rw [List.size_toArray]
  refine Nat.le_trans (trim_size _ _) ?_
  have h1 : (mmDigits u).size ≤ 20 := dec_size _ (by omega)
  have h2 : ((mmDigits u).extract 1 (mmDigits u).size).size ≤ 20 := by rw [ByteArray.size_extract]; omega
  have h3 := ba_len ((mmDigits u).extract 1 (mmDigits u).size)
  omega
theorem mmText_size (n : Int) (h0 : -9223372036854775808 ≤ n) (h1 : n ≤ 9223372036854775807) : (mmText n).size ≤ 1000 := by
  have e1 : (mmSign n).size ≤ 1 := by unfold mmSign; split <;> decide
  have e2 : (mmWhole n.natAbs).size ≤ 20 := dec_size _ (by omega)
  have e3 := mmPart_size n.natAbs
  have e4 : (ByteArray.mk #[46]).size = 1 := rfl
  unfold mmText
  split <;> simp only [ByteArray.size_append] <;> omega

end Go.Proofs.YtjibcnnbclcboaaDoor

namespace Go.Proofs.YtjibcnnbclcboaaDoor
open Go.RowKit
set_option maxRecDepth 8000
set_option maxRecDepth 100000

/-- What the walk needs of a length. -/
structure MmFacts (u : Nat) (w : World) (wh dg ex pt : ByteArray) : Prop where
  w1 : wh.size ≤ 20
  w2 : 1 ≤ dg.size ∧ dg.size ≤ 20
  w3 : pt.size ≤ 20
  hex : dg.extract 1 dg.size = ex
  whole : ∀ w', Ext w w' → Calls Tryd.prog 11 #[.int .u64 ((u : Int) / 1000), .int .i64 10] w' fun e w'' => e = .returned (.string wh) ∧ Ext w' w''
  digits : ∀ w', Ext w w' → Calls Tryd.prog 11 #[.int .u64 (1000 + (u : Int) % 1000), .int .i64 10] w' fun e w'' => e = .returned (.string dg) ∧ Ext w' w''
  trim : ∀ w', Calls Tryd.prog 12 #[.string ex, .string ⟨#[48]⟩] w' fun e w'' => e = .returned (.string pt) ∧ w'' = w'

theorem mm_facts (u : Nat) (w : World) (hu : u ≤ 1000000000) (ht : Tab w) : MmFacts u w (mmWhole u) (mmDigits u) ((mmDigits u).extract 1 (mmDigits u).size) (mmPart u) where
  w1 := dec_size (u / 1000) (by omega)
  w2 := by
    refine ⟨?_, dec_size (1000 + u % 1000) (by omega)⟩
    show 1 ≤ (Lib.decDigits _).toArray.size
    rw [List.size_toArray, Lib.decDigits_length]
    have := Lib.lt_pow_nDigits (1000 + u % 1000)
    rcases Nat.eq_zero_or_pos (Lib.nDigits (1000 + u % 1000)) with h | h
    · rw [h] at this; omega
    · exact h
  w3 := mmPart_size u
  hex := rfl
  whole := fun w' hx => by
    have := formatUint_any (u / 1000) (by omega) w' (ht.ext hx)
    rwa [Int.natCast_ediv] at this
  digits := fun w' hx => by
    have := formatUint_any (1000 + u % 1000) (by omega) w' (ht.ext hx)
    rwa [Int.natCast_add, Int.natCast_emod] at this
  trim := fun w' => Tryd.strings_TrimRight_one _ 48 (by decide) w' (by
    have : (mmDigits u).size ≤ 20 := dec_size (1000 + u % 1000) (by omega)
    rw [ByteArray.size_extract]; omega)

set_option maxHeartbeats 8000000 in
theorem mm_pos (u : Nat) (w : World) (wh dg ex pt : ByteArray) (hu : u ≤ 1000000000) (hf : MmFacts u w wh dg ex pt) :
    Calls Tryd.prog 5 #[.int .i64 u] w fun e w' => e = .returned (.string (if u % 1000 = 0 then ⟨#[]⟩ ++ wh else (⟨#[]⟩ ++ wh) ++ (⟨#[46]⟩ ++ pt))) ∧ Ext w w' := by
  have HF := Lib.hid hf
  have s1 := hf.w1; have s2 := hf.w2.1; have s3 := hf.w2.2; have s4 := hf.w3
  have ha1 := fun wx => run_string_add (P := Tryd.prog) wx ⟨#[]⟩ wh (by decide) (by omega)
  have z1 : (ByteArray.mk #[46]).size = 1 := rfl
  have z0 : (ByteArray.mk #[]).size = 0 := rfl
  have ha2 := fun wx => run_string_add (P := Tryd.prog) wx ⟨#[46]⟩ pt (by omega) (by omega)
  have ha3 := fun wx => run_string_add (P := Tryd.prog) wx (⟨#[]⟩ ++ wh) (⟨#[46]⟩ ++ pt) (by rw [ByteArray.size_append]; omega) (by rw [ByteArray.size_append]; omega)
  have hex := hf.hex
  have hd0 : (0 : Int) ≤ (u : Int) % 1000 := by omega
  have hd1 : (u : Int) % 1000 < 1000 := by omega
  clear hf
  by_cases hz : u % 1000 = 0
  · rw [if_pos hz]
    have hzi : (((u : Int) % 1000) != 0) = false := by simp; omega
    have HZ := Lib.hid hz
    clear hz
    go_enter Tryd.func5, Tryd.ntmps5
    go_wp2_with (go_at_call 11; with_reducible refine (HF.out.whole _ (Ext.refl _)).mono ?_; rintro e w' ⟨rfl, hx⟩)
    go_ret
    exact ⟨rfl, hx⟩
  · rw [if_neg hz]
    have hzi : (((u : Int) % 1000) != 0) = true := by simp; omega
    have HZ := Lib.hid hz
    clear hz
    go_enter Tryd.func5, Tryd.ntmps5
    go_wp2_with ((go_at_call 11; with_reducible refine (HF.out.whole _ (Ext.refl _)).mono ?_); rintro e w' ⟨rfl, hx⟩)
    refine (HF.out.digits _ hx).mono ?_
    rintro e w2 ⟨rfl, hx2⟩
    go_wp2_with fail
    refine (HF.out.trim _).mono ?_
    rintro e w3 ⟨rfl, rfl⟩
    go_wp2
    go_ret
    exact ⟨rfl, hx.trans hx2⟩

set_option maxHeartbeats 8000000 in
theorem mm_neg (u : Nat) (w : World) (wh dg ex pt : ByteArray) (hu1 : 1 ≤ u) (hu : u ≤ 1000000000) (hf : MmFacts u w wh dg ex pt) :
    Calls Tryd.prog 5 #[.int .i64 (-(u : Int))] w fun e w' => e = .returned (.string (if u % 1000 = 0 then ⟨#[45]⟩ ++ wh else (⟨#[45]⟩ ++ wh) ++ (⟨#[46]⟩ ++ pt))) ∧ Ext w w' := by
  have HF := Lib.hid hf
  have s1 := hf.w1; have s2 := hf.w2.1; have s3 := hf.w2.2; have s4 := hf.w3
  have ha1 := fun wx => run_string_add (P := Tryd.prog) wx ⟨#[45]⟩ wh (by decide) (by omega)
  have z1 : (ByteArray.mk #[46]).size = 1 := rfl
  have z0 : (ByteArray.mk #[45]).size = 1 := rfl
  have hwr : IntKind.u64.wrap (-IntKind.u64.wrap (-(u : Int))) = (u : Int) := by rw [IntKind.wrap_u64, IntKind.wrap_u64]; omega
  have hlt : 0 < u := by omega
  have ha2 := fun wx => run_string_add (P := Tryd.prog) wx ⟨#[46]⟩ pt (by omega) (by omega)
  have ha3 := fun wx => run_string_add (P := Tryd.prog) wx (⟨#[45]⟩ ++ wh) (⟨#[46]⟩ ++ pt) (by rw [ByteArray.size_append]; omega) (by rw [ByteArray.size_append]; omega)
  have hex := hf.hex
  have hd0 : (0 : Int) ≤ (u : Int) % 1000 := by omega
  have hd1 : (u : Int) % 1000 < 1000 := by omega
  clear hf
  by_cases hz : u % 1000 = 0
  · rw [if_pos hz]
    have hzi : (((u : Int) % 1000) != 0) = false := by simp; omega
    have HZ := Lib.hid hz
    clear hz
    go_enter Tryd.func5, Tryd.ntmps5
    go_wp2_with (go_at_call 11; with_reducible refine (HF.out.whole _ (Ext.refl _)).mono ?_; rintro e w' ⟨rfl, hx⟩)
    go_ret
    exact ⟨rfl, hx⟩
  · rw [if_neg hz]
    have hzi : (((u : Int) % 1000) != 0) = true := by simp; omega
    have HZ := Lib.hid hz
    clear hz
    go_enter Tryd.func5, Tryd.ntmps5
    go_wp2_with ((go_at_call 11; with_reducible refine (HF.out.whole _ (Ext.refl _)).mono ?_); rintro e w' ⟨rfl, hx⟩)
    refine (HF.out.digits _ hx).mono ?_
    rintro e w2 ⟨rfl, hx2⟩
    go_wp2_with fail
    refine (HF.out.trim _).mono ?_
    rintro e w3 ⟨rfl, rfl⟩
    go_wp2
    go_ret
    exact ⟨rfl, hx.trans hx2⟩


theorem mm_any (n : Int) (w : World) (h0 : -1000000000 ≤ n) (h1 : n ≤ 1000000000) (ht : Tab w) :
    Calls Tryd.prog 5 #[.int .i64 n] w fun e w' => e = .returned (.string (mmText n)) ∧ Ext w w' := by
  by_cases hn : n < 0
  · obtain ⟨u, rfl⟩ : ∃ u : Nat, n = -(u : Int) := ⟨n.natAbs, by omega⟩
    have hm : mmText (-(u : Int)) = if u % 1000 = 0 then ⟨#[45]⟩ ++ mmWhole u else (⟨#[45]⟩ ++ mmWhole u) ++ (⟨#[46]⟩ ++ mmPart u) := by
      unfold mmText mmSign
      rw [if_pos hn, Int.natAbs_neg, Int.natAbs_natCast]
    rw [hm]
    exact mm_neg u w _ _ _ _ (by omega) (by omega) (mm_facts u w (by omega) ht)
  · obtain ⟨u, rfl⟩ : ∃ u : Nat, n = (u : Int) := ⟨n.natAbs, by omega⟩
    have hm : mmText (u : Int) = if u % 1000 = 0 then ⟨#[]⟩ ++ mmWhole u else (⟨#[]⟩ ++ mmWhole u) ++ (⟨#[46]⟩ ++ mmPart u) := by
      unfold mmText mmSign
      rw [if_neg hn, Int.natAbs_natCast]
    rw [hm]
    exact mm_pos u w _ _ _ _ (by omega) (mm_facts u w (by omega) ht)

end Go.Proofs.YtjibcnnbclcboaaDoor

namespace Go.Proofs.YtjibcnnbclcboaaDoor
open Go.RowKit

/-- The frame in which the operations' places hold these values. -/
def putAll : List Oper → (Nat → Value) → Nat → Act → Act
  | [], _, _, a => a
  | o :: r, vals, i, a => putAll r vals (i + 1) (a.put o.dst (vals i))

/-- No two operations write one place. -/
def apartB : List Oper → Bool
  | [] => true
  | o :: r => (r.all fun x => match o.dst, x.dst with | some d, some e => !(d == e) | _, _ => true) && apartB r
/-- No operation waits for a later one. -/
def lowB (l : List Oper) : Bool := (List.range l.length).all fun i => ((l[i]?).map fun o => o.after.all fun e => !Region.binds .any e || decide (e.on < i)).getD true

def upd (vals : Nat → Value) (i : Nat) (v : Value) : Nat → Value := fun j => if j = i then v else vals j
theorem upd_same (vals : Nat → Value) (i : Nat) (v : Value) : upd vals i v i = v := by simp [upd]
theorem upd_ne (vals : Nat → Value) {i j : Nat} (v : Value) (h : j ≠ i) : upd vals i v j = vals j := by simp [upd, h]

theorem put_put (a : Act) (x : Option Tmp) (v u : Value) : (a.put x v).put x u = a.put x u := by
  cases x with
  | none => rfl
  | some d => simp [Act.put]
theorem putAll_congr : ∀ (l : List Oper) (i : Nat) (a : Act) (f g : Nat → Value), (∀ j, i ≤ j → j < i + l.length → f j = g j) → putAll l f i a = putAll l g i a
  | [], _, _, _, _, _ => rfl
  | o :: r, i, a, f, g, h => by
    unfold putAll
    rw [h i (Nat.le_refl _) (by simp)]
    exact putAll_congr r (i + 1) _ f g (fun j h1 h2 => h j (by omega) (by simp at h2 ⊢; omega))
theorem putAll_put : ∀ (l : List Oper) (i : Nat) (a : Act) (f : Nat → Value) (x : Option Tmp) (v : Value), (∀ o ∈ l, ∀ d, x = some d → o.dst ≠ some d) → putAll l f i (a.put x v) = (putAll l f i a).put x v
  | [], _, _, _, _, _, _ => rfl
  | o :: r, i, a, f, x, v, h => by
    unfold putAll
    rw [Act.put_comm a v (f i) (h o (List.mem_cons_self ..))]
    exact putAll_put r (i + 1) _ f x v (fun o' ho' => h o' (List.mem_cons_of_mem _ ho'))
theorem apart_cons {o : Oper} {r : List Oper} (h : apartB (o :: r) = true) : (∀ x ∈ r, ∀ d, o.dst = some d → x.dst ≠ some d) ∧ apartB r = true := by
  simp only [apartB, Bool.and_eq_true, List.all_eq_true] at h
  refine ⟨fun x hx d hd he => ?_, h.2⟩
  have := h.1 x hx
  simp [hd, he] at this
/-- Writing one operation's place. -/
theorem putAll_upd : ∀ (l : List Oper) (i k : Nat) (a : Act) (f : Nat → Value) (v : Value) (o : Oper), apartB l = true → l[k]? = some o → (putAll l f i a).put o.dst v = putAll l (upd f (i + k) v) i a
  | [], _, _, _, _, _, _, _, h => by simp at h
  | o' :: r, i, 0, a, f, v, o, hB, h => by
    obtain rfl : o' = o := by simpa using h
    obtain ⟨h1, _⟩ := apart_cons hB
    unfold putAll
    rw [← putAll_put r (i + 1) _ f o'.dst v h1, put_put]
    simp only [Nat.add_zero]
    rw [upd_same]
    exact putAll_congr r (i + 1) _ _ _ (fun j h1 _ => (upd_ne f v (by omega)).symm)
  | o' :: r, i, k + 1, a, f, v, o, hB, h => by
    obtain ⟨_, h2⟩ := apart_cons hB
    unfold putAll
    rw [putAll_upd r (i + 1) k _ f v o h2 (by simpa using h), upd_ne f v (by omega : i ≠ i + (k + 1)), show i + 1 + k = i + (k + 1) by omega]
theorem put_self (a : Act) (x : Option Tmp) : ∃ v, a.put x v = a := by
  cases x with
  | none => exact ⟨undef, rfl⟩
  | some d =>
    refine ⟨a.tmps.getD d undef, ?_⟩
    cases a with
    | mk t ds =>
      simp only [Act.put]
      congr 1
      apply Array.ext_getElem?
      intro i
      rw [Array.getElem?_setIfInBounds]
      split
      · rename_i h
        subst h
        split
        · rename_i h2; simp [h2]
        · rename_i h2; simp [Array.getElem?_eq_none (Nat.le_of_not_lt h2)]
      · rfl
theorem putAll_start : ∀ (l : List Oper) (i : Nat) (a : Act), ∃ f, putAll l f i a = a
  | [], _, a => ⟨fun _ => undef, rfl⟩
  | o :: r, i, a => by
    obtain ⟨v, hv⟩ := put_self a o.dst
    obtain ⟨f, hf⟩ := putAll_start r (i + 1) a
    refine ⟨upd f i v, ?_⟩
    unfold putAll
    rw [upd_same, hv, putAll_congr r (i + 1) a (upd f i v) f (fun j h1 _ => upd_ne f v (by omega))]
    exact hf

section
variable {P : Program} {Q : Exit → Act → World → Prop} {l : List Oper} {w0 : World} {a0 : Act} {R : Nat → Value → World → Prop}

/-- What is to be shown of the operation with number i. -/
def FlowStep (P : Program) (Q : Exit → Act → World → Prop) (l : List Oper) (w0 : World) (a0 : Act) (R : Nat → Value → World → Prop) (i : Nat) (o : Oper) : Prop :=
  ∀ (vals : Nat → Value) (w : World), Ext w0 w → (∀ e ∈ o.after, Region.binds .any e = true → R e.on (vals e.on) w) →
    wpOp P l.toArray Q i (fun a' w' => ∃ v, a' = (putAll l vals 0 a0).put o.dst v ∧ Ext w w' ∧ R i v w') (putAll l vals 0 a0) w
def FlowAll (p : Nat → Oper → Prop) : List Oper → Nat → Prop
  | [], _ => True
  | o :: r, i => p i o ∧ FlowAll p r (i + 1)
theorem flowAll_get {p : Nat → Oper → Prop} : ∀ (l : List Oper) (n : Nat), FlowAll p l n → ∀ i o, l[i]? = some o → p (n + i) o
  | [], _, _, _, _, h => by simp at h
  | o :: r, n, hp, 0, o', h => by obtain rfl : o = o' := by simpa using h
                                  exact hp.1
  | o :: r, n, hp, i + 1, o', h => by
    have := flowAll_get r (n + 1) hp.2 i o' (by simpa using h)
    rwa [show n + 1 + i = n + (i + 1) by omega] at this

theorem flow_sound (hA : apartB l = true) (hL : lowB l = true) (hR : ∀ i v w w', Ext w w' → R i v w → R i v w')
    (hS : ∀ i o, l[i]? = some o → FlowStep P Q l w0 a0 R i o)
    (hQ : ∀ vals w, Ext w0 w → (∀ i, i < l.length → R i (vals i) w) → Q .normal (putAll l vals 0 a0) w) :
    ∀ (d : Nat) (ls : Array Bool) (vals : Nat → Value) (w : World), ls.size = l.length → (∃ rem : List Nat, rem.length = d ∧ rem.Nodup ∧ ∀ i, i < l.length → (ls.getD i true = false ↔ i ∈ rem)) →
      Ext w0 w → (∀ i, i < l.length → ls.getD i true = true → R i (vals i) w) → wpAny P .any l.toArray Q d ls (putAll l vals 0 a0) w := by
  have hlow : ∀ i o, l[i]? = some o → ∀ e ∈ o.after, Region.binds .any e = true → e.on < i := fun i o ho e he hb => by
    have hi : i < l.length := by
      rcases Nat.lt_or_ge i l.length with h | h
      · exact h
      · rw [List.getElem?_eq_none h] at ho; cases ho
    simp only [lowB, List.all_eq_true, List.mem_range] at hL
    have := hL i hi
    rw [ho] at this
    simp only [Option.map_some, Option.getD_some, Array.all_eq_true'] at this
    have h4 := this e he
    simpa [hb] using h4
  -- what has not come up lets its least one come up
  have hend : ∀ ls : Array Bool, ls.size = l.length → Region.ready .any l.toArray ls = [] → ∀ i, i < l.length → ls.getD i true = true := fun ls hs hr i hi => by
    induction i using Nat.strongRecOn with
    | _ i ih =>
      rcases hb : ls.getD i true with _ | _
      · exfalso
        have ho : l.toArray[i]? = some (l[i]) := by simp [hi]
        have : i ∈ Region.ready .any l.toArray ls := mem_ready.2 ⟨hb, _, ho, fun e he hbd => by
          have h1 := hlow i _ (by simp [hi]) e he hbd
          have h2 := ih e.on h1 (by omega)
          have h3 : e.on < ls.size := by omega
          simp [h3] at h2 ⊢
          exact h2⟩
        rw [hr] at this
        cases this
      · rfl
  intro d
  induction d with
  | zero =>
    intro ls vals w hs hrem hE hV
    obtain ⟨rem, h1, h2, h3⟩ := hrem
    have hall : ∀ i, i < l.length → ls.getD i true = true := fun i hi => by
      rcases hb : ls.getD i true with _ | _
      · have := (h3 i hi).1 hb
        rw [List.length_eq_zero_iff.1 h1] at this
        cases this
      · rfl
    refine ⟨List.eq_nil_iff_forall_not_mem.2 fun i hi => ?_, hQ vals w hE (fun i hi => hV i hi (hall i hi))⟩
    obtain ⟨hu, o, ho, _⟩ := mem_ready.1 hi
    have hil : i < l.length := by have : i < l.toArray.size := (Array.getElem?_eq_some_iff.1 ho).1; simpa using this
    rw [hall i hil] at hu
    cases hu
  | succ d ih =>
    intro ls vals w hs hrem hE hV
    refine ⟨fun hr => hQ vals w hE (fun i hi => hV i hi (hend ls hs hr i hi)), fun i hi => ?_⟩
    obtain ⟨hu, o, ho, hall⟩ := mem_ready.1 hi
    have hil : i < l.length := by have : i < l.toArray.size := (Array.getElem?_eq_some_iff.1 ho).1; simpa using this
    have hol : l[i]? = some o := by simpa using ho
    refine wpOp_mono ?_ (hS i o hol vals w hE fun e he hb => ?_)
    · rintro a' w' ⟨v, rfl, hE', hRv⟩
      rw [putAll_upd l 0 i a0 vals v o hA hol, Nat.zero_add]
      obtain ⟨rem, h1, h2, h3⟩ := hrem
      have him : i ∈ rem := (h3 i hil).1 hu
      refine ih _ _ _ (by simpa using hs) ⟨rem.erase i, by rw [List.length_erase_of_mem him]; omega, h2.erase i, fun k hk => ?_⟩ (hE.trans hE') (fun k hk hk' => ?_)
      · by_cases hki : k = i
        · subst hki
          have h4 : k < ls.size := by omega
          rw [h2.mem_erase_iff]
          simp [h4]
        · rw [getD_set_ne true (by omega), h3 k hk, h2.mem_erase_iff]
          simp [hki]
      · by_cases hki : k = i
        · subst hki; rw [upd_same]; exact hRv
        · rw [getD_set_ne true (by omega)] at hk'
          rw [upd_ne _ _ hki]
          exact hR k _ w w' hE' (hV k hk hk')
    · have h1 := hlow i o hol e he hb
      have h2 := hall e he hb
      have h3 : e.on < ls.size := by omega
      exact hV e.on (by omega) (by simp [h3] at h2 ⊢; exact h2)

/-- The rule. -/
theorem wp_region_flow {id : Nat} (R : Nat → Value → World → Prop) (hm : P.follows .mixedOrders = true) (hA : apartB l = true) (hL : lowB l = true) (hR : ∀ i v w w', Ext w w' → R i v w → R i v w')
    (hS : FlowAll (FlowStep P Q l w0 a0 R) l 0)
    (hQ : ∀ vals w, Ext w0 w → (∀ i, i < l.length → R i (vals i) w) → Q .normal (putAll l vals 0 a0) w) : (Code.region id l.toArray true).wp P Q a0 w0 := by
  refine wp_region_any hm ?_
  obtain ⟨f, hf⟩ := putAll_start l 0 a0
  have := flow_sound (P := P) (Q := Q) (w0 := w0) (a0 := a0) hA hL hR (fun i o ho => by have := flowAll_get l 0 hS i o ho; rwa [Nat.zero_add] at this) hQ l.toArray.size (Array.replicate l.toArray.size false) f { w0 with drawn := w0.drawn + 1 } (by simp)
    ⟨List.range l.length, by simp, List.nodup_range, fun i hi => by simp [hi]⟩ (Ext.refl w0).drew (fun i hi h => by simp [hi] at h)
  rw [hf] at this
  exact this
end
end Go.Proofs.YtjibcnnbclcboaaDoor
