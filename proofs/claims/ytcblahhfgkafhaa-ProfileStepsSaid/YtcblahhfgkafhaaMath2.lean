/-
  The plain mathematics of layer 49, continued: smooth lists.
-/
import Derived.Test.YtcblahhfgkafhaaMath
namespace Go.Proofs.Ytcblahhfgkafhaa

/-- Is the rest of a list smooth, behind a speed and an acceleration? -/
def smGo (s a j : Int) : Int → Int → List Int → Bool
  | _, _, [] => true
  | v, b, x :: r => inR x 0 s && inR (x - v) (-a) a && inR (x - v - b) (-j) j && smGo s a j x (x - v) r
/-- Is a list smooth? -/
def smth (s a j : Int) (l : List Int) : Bool := vld s a j && smGo s a j 0 0 (l ++ [0, 0])

theorem getD_app2 (l : List Int) (i : Nat) (h : i < l.length + 2) : (l ++ [0, 0]).drop i = (if i < l.length then l.getD i 0 else 0) :: (l ++ [0, 0]).drop (i + 1) := by
  rw [List.drop_eq_getElem_cons (by simp; omega)]
  congr 1
  by_cases hi : i < l.length
  · rw [if_pos hi, List.getElem_append_left hi]; simp [hi]
  · rw [if_neg hi, List.getElem_append_right (by omega)]
    have : i - l.length = 0 ∨ i - l.length = 1 := by omega
    rcases this with h | h <;> simp [h]

end Go.Proofs.Ytcblahhfgkafhaa
