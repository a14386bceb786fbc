/-
  What a law is told of its arguments: numbers, structs of three numbers, short arrays of numbers.
-/
import Derived.Test.YtcblahhfgkafhaaArg
namespace Go.Proofs.Ytcblahhfgkafhaa
open Go.ChangeShapes Go.WideShapes Go.ChangeAt Go.RowKit Go.Joins

section
variable {H : Type} {enc : TypeId × Value → H} {W : World} {base : Nat} {v : Value} {d : DataW H} {p : List MemPlace} {t : TypeId}

theorem int_of (hv : Value.okWide Try.prog W .any base 2 v) (h : DataW.Trod enc Try.prog W 0 (fun _ => true) true 2 v d p) : ∃ x : Int, v = .int .i64 x ∧ (Lit.int .i64 x).wf = true := by
  obtain ⟨x, h1, _, _, h4⟩ := open_int Try.underlying2 hv h; exact ⟨x, h1, h4⟩

theorem agg3_of {f0 f1 f2 : Field} (hone : Deep.oneCellFields Try.prog #[f0, f1, f2] = true) (hC : Try.prog.cellsOf t = 3) (hs : Try.prog.underlying t = some (.struct #[f0, f1, f2])) (t0 : f0.type = 2) (t1 : f1.type = 2) (t2 : f2.type = 2)
    (hv : Value.okWide Try.prog W .any base t v) (h : DataW.Trod enc Try.prog W 0 (fun _ => true) true t v d p) : ∃ x y z : Int, v = .agg #[.int .i64 x, .int .i64 y, .int .i64 z] := by
  obtain ⟨c0, c1, c2, y0, y1, y2, m, h, _, _, hy0, hy1, hy2⟩ := open_agg3 hs hone hC hv h
  rw [t0] at hy0; rw [t1] at hy1; rw [t2] at hy2
  obtain ⟨x, f0, _⟩ := DataW.trod_int Try.underlying2 hy0
  obtain ⟨y, f1, _⟩ := DataW.trod_int Try.underlying2 hy1
  obtain ⟨z, f2, _⟩ := DataW.trod_int Try.underlying2 hy2
  simp at f0 f1 f2
  exact ⟨x, y, z, by rw [h, f0, f1, f2]⟩

theorem okWide_arr {n : Nat} {e : TypeId} (ht : Try.prog.underlying t = some (.array n e)) (h : Value.okWide Try.prog W .any base t v) : ∃ cs, v = .agg cs ∧ cs.size = Try.prog.cellsOf t := by
  simp only [Value.okWide, ht] at h
  obtain ⟨cs, h1, h2, _⟩ := h
  exact ⟨cs, h1, h2⟩

theorem arr2_of (ht : Try.prog.underlying t = some (.array 2 2)) (hC : Try.prog.cellsOf t = 2)
    (hv : Value.okWide Try.prog W .any base t v) (h : DataW.Trod enc Try.prog W 0 (fun _ => true) true t v d p) : ∃ x y : Int, v = .agg #[.int .i64 x, .int .i64 y] := by
  obtain ⟨cs, rfl, hsz⟩ := okWide_arr ht hv
  obtain ⟨fuel, hf⟩ := h
  obtain ⟨xs, m, _, _, hlen, hxs, hall⟩ := DataW.trod_array ht hf
  have h1 : Try.prog.cellsOf 2 = 1 := by kernel_rfl
  simp only [Value.cells, h1, Nat.mul_one] at hall hlen
  rw [hC] at hsz
  obtain ⟨l⟩ := cs
  match l, hsz with
  | [c0, c1], _ =>
    have g0 := hall 0 (by omega)
    have g1 := hall 1 (by omega)
    simp [hxs] at g0 g1
    obtain ⟨x, f0, _⟩ := DataW.trod_int Try.underlying2 g0
    obtain ⟨y, f1, _⟩ := DataW.trod_int Try.underlying2 g1
    simp at f0 f1
    exact ⟨x, y, by rw [f0, f1]⟩

theorem arr3_of (ht : Try.prog.underlying t = some (.array 3 2)) (hC : Try.prog.cellsOf t = 3)
    (hv : Value.okWide Try.prog W .any base t v) (h : DataW.Trod enc Try.prog W 0 (fun _ => true) true t v d p) : ∃ x y z : Int, v = .agg #[.int .i64 x, .int .i64 y, .int .i64 z] := by
  obtain ⟨cs, rfl, hsz⟩ := okWide_arr ht hv
  obtain ⟨fuel, hf⟩ := h
  obtain ⟨xs, m, _, _, hlen, hxs, hall⟩ := DataW.trod_array ht hf
  have h1 : Try.prog.cellsOf 2 = 1 := by kernel_rfl
  simp only [Value.cells, h1, Nat.mul_one] at hall hlen
  rw [hC] at hsz
  obtain ⟨l⟩ := cs
  match l, hsz with
  | [c0, c1, c2], _ =>
    have g0 := hall 0 (by omega)
    have g1 := hall 1 (by omega)
    have g2 := hall 2 (by omega)
    simp [hxs] at g0 g1 g2
    obtain ⟨x, f0, _⟩ := DataW.trod_int Try.underlying2 g0
    obtain ⟨y, f1, _⟩ := DataW.trod_int Try.underlying2 g1
    obtain ⟨z, f2, _⟩ := DataW.trod_int Try.underlying2 g2
    simp at f0 f1 f2
    exact ⟨x, y, z, by rw [f0, f1, f2]⟩
end

end Go.Proofs.Ytcblahhfgkafhaa
