/-
  The plain mathematics of layer 49, continued: the fast list and the simple one.
-/
import Derived.Test.YtcblahhfgkafhaaMath5
namespace Go.Proofs.Ytcblahhfgkafhaa

/-- Can the state with the acceleration x follow the speed v, within the rest? -/
def fitsB (s a j v rest x : Int) : Bool := decide (v + x ≤ rest) && (saf s a j (v + x) x && decide (dsum s a j (v + x) x ≤ rest - (v + x)))

/-- The search for the greatest that fits. -/
def bis (P : Int → Bool) : Nat → Int → Int → Int
  | 0, lo, _ => lo
  | k + 1, lo, hi => if lo < hi then (if P (lo + (hi - lo + 1) / 2) then bis P k (lo + (hi - lo + 1) / 2) hi else bis P k lo (lo + (hi - lo + 1) / 2 - 1)) else lo

theorem bis_done (P : Int → Bool) (k : Nat) (lo hi : Int) (h : ¬ lo < hi) : bis P k lo hi = lo := by
  cases k with
  | zero => rfl
  | succ k => simp [bis, h]
theorem bis_fuel (P : Int → Bool) : ∀ (k m : Nat) (lo hi : Int), (hi - lo).toNat ≤ k → k ≤ m → bis P m lo hi = bis P k lo hi := by
  intro k
  induction k with
  | zero => intro m lo hi h _; rw [bis_done P m lo hi (by omega)]; rfl
  | succ k ih =>
    intro m lo hi h hm
    obtain ⟨m, rfl⟩ : ∃ m', m = m' + 1 := ⟨m - 1, by omega⟩
    simp only [bis]
    by_cases hlt : lo < hi
    · rw [if_pos hlt, if_pos hlt]
      split
      · exact ih m _ _ (by omega) (by omega)
      · exact ih m _ _ (by omega) (by omega)
    · rw [if_neg hlt, if_neg hlt]
theorem bis_in (P : Int → Bool) : ∀ (k : Nat) (lo hi : Int), lo ≤ hi → lo ≤ bis P k lo hi ∧ bis P k lo hi ≤ hi ∧ (P lo = true → P (bis P k lo hi) = true) := by
  intro k
  induction k with
  | zero => intro lo hi h; exact ⟨Int.le_refl _, h, fun h => h⟩
  | succ k ih =>
    intro lo hi h
    simp only [bis]
    by_cases hlt : lo < hi
    · rw [if_pos hlt]
      by_cases hp : P (lo + (hi - lo + 1) / 2) = true
      · rw [if_pos hp]
        obtain ⟨h1, h2, h3⟩ := ih (lo + (hi - lo + 1) / 2) hi (by omega)
        exact ⟨by omega, h2, fun _ => h3 hp⟩
      · rw [if_neg hp]
        obtain ⟨h1, h2, h3⟩ := ih lo (lo + (hi - lo + 1) / 2 - 1) (by omega)
        exact ⟨h1, by omega, h3⟩
    · rw [if_neg hlt]
      exact ⟨Int.le_refl _, h, fun h => h⟩

def nlo (a j v b : Int) : Int := max (brk a j v b) (1 - v)
def nhi (a j v b rest : Int) : Int := min (min a (b + j)) (rest - v)
/-- The greatest acceleration that fits. -/
def nxt (s a j v b rest : Int) : Option Int :=
  if nhi a j v b rest < nlo a j v b ∨ fitsB s a j v rest (nlo a j v b) = false then none
  else some (bis (fitsB s a j v rest) (nhi a j v b rest - nlo a j v b).toNat (nlo a j v b) (nhi a j v b rest))

theorem nxt_some {s a j v b rest c : Int} (h : nxt s a j v b rest = some c) : nlo a j v b ≤ c ∧ c ≤ nhi a j v b rest ∧ fitsB s a j v rest c = true := by
  unfold nxt at h
  split at h
  · cases h
  · rename_i hn
    simp only [Option.some.injEq] at h
    obtain ⟨h1, h2, h3⟩ := bis_in (fitsB s a j v rest) (nhi a j v b rest - nlo a j v b).toNat (nlo a j v b) (nhi a j v b rest) (by omega)
    rw [h] at h1 h2 h3
    refine ⟨h1, h2, h3 ?_⟩
    cases hf : fitsB s a j v rest (nlo a j v b)
    · exact absurd (.inr hf) hn
    · rfl
theorem fitsB_saf {s a j v rest x : Int} (h : fitsB s a j v rest x = true) : v + x ≤ rest ∧ saf s a j (v + x) x = true ∧ dsum s a j (v + x) x ≤ rest - (v + x) := by
  simpa [fitsB] using h

/-- The loop of the fast list: what is left of the length, the state, the list so far. -/
def fastGo (s a j most : Int) : Nat → Int → Int → Int → List Int → Option (List Int)
  | 0, _, _, _, out => some out
  | k + 1, v, b, rest, out =>
    if 0 < rest then
      match nxt s a j v b rest with
      | none => none
      | some c => if (out.length : Int) = most then none else fastGo s a j most k (v + c) c (rest - (v + c)) (out ++ [v + c])
    else some out

/-- The fast list, if there is one. -/
def fastL (s a j n most : Int) : Option (List Int) := if 5000 < most ∨ 100 < s / a + a / j then none else fastGo s a j most n.toNat 0 0 n []

/-- The simple list. -/
def simpGo (u : Int) : Nat → Int → List Int → List Int
  | 0, _, out => out
  | k + 1, rest, out => if 0 < rest then simpGo u k (rest - ((rest - 1) % u + 1)) (out ++ [(rest - 1) % u + 1]) else out

/-- What Steps returns, for valid limits and a length that is not too great. -/
def stepsL (n s a j : Int) : List Int :=
  match fastL s a j n (tickN' n s a j) with
  | some l => if smth s a j l then l else simpGo (smp s a j) n.toNat n []
  | none => simpGo (smp s a j) n.toNat n []
where tickN' (n s a j : Int) : Int := (n + smp s a j - 1) / smp s a j

end Go.Proofs.Ytcblahhfgkafhaa
