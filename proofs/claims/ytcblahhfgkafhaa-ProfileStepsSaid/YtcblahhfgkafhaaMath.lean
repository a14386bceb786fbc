/-
  The plain mathematics of layer 49: no program in sight.
-/
namespace Go.Proofs.Ytcblahhfgkafhaa

/-- low ≤ n ≤ high. -/
def inR (n lo hi : Int) : Bool := decide (lo ≤ n) && decide (n ≤ hi)
/-- Valid limits. -/
def vld (s a j : Int) : Bool := inR s 1 100000 && inR a 1 100000 && inR j 2 100000
/-- The sum of the positive ones of n - j, n - 2 j, .. -/
def fad (j n : Int) : Int := if n ≤ j then 0 else (n - 1) / j * n - j * ((n - 1) / j) * ((n - 1) / j + 1) / 2
/-- The distance that can be covered in every tick. -/
def smp (s a j : Int) : Int := min (min s a) (j / 2)
/-- A safe state. -/
def saf (s a j v b : Int) : Bool :=
  inR v 0 s && inR b (-a) a && (if 0 < b then decide (v + fad j b ≤ s) else decide (fad j (-b) ≤ v))

theorem inR_iff (n lo hi : Int) : inR n lo hi = true ↔ lo ≤ n ∧ n ≤ hi := by simp [inR]
theorem inR_not (n lo hi : Int) : inR n lo hi = false ↔ ¬ (lo ≤ n ∧ n ≤ hi) := by
  rw [← inR_iff]; simp
theorem vld_iff (s a j : Int) : vld s a j = true ↔ (1 ≤ s ∧ s ≤ 100000) ∧ (1 ≤ a ∧ a ≤ 100000) ∧ (2 ≤ j ∧ j ≤ 100000) := by
  simp [vld, inR_iff, and_assoc]

theorem fad_bounds (j n : Int) (hj : 2 ≤ j) (hn : n ≤ 100000) :
    (¬ n ≤ j → 0 ≤ (n - 1) / j ∧ (n - 1) / j ≤ 50000 ∧ j * ((n - 1) / j) ≤ n - 1) := by
  intro h
  have h1 : 0 ≤ (n - 1) / j := Int.ediv_nonneg (by omega) (by omega)
  have h2 : j * ((n - 1) / j) ≤ n - 1 := Int.mul_ediv_self_le (by omega)
  refine ⟨h1, ?_, h2⟩
  have : 2 * ((n - 1) / j) ≤ j * ((n - 1) / j) := Int.mul_le_mul_of_nonneg_right hj h1
  omega


theorem ediv_sub_one (n j : Int) (hj : 0 < j) : (n - j - 1) / j = (n - 1) / j - 1 := by
  have : n - j - 1 = n - 1 + (-1) * j := by omega
  rw [this, Int.add_mul_ediv_right _ _ (by omega)]; omega

/-- fad, step by step. -/
theorem fad_rec (j n : Int) (hj : 2 ≤ j) : fad j n = if n ≤ j then 0 else (n - j) + fad j (n - j) := by
  by_cases h : n ≤ j
  · simp [fad, h]
  · rw [if_neg h]
    have hq : (n - j - 1) / j = (n - 1) / j - 1 := ediv_sub_one n j (by omega)
    have e1 : fad j n = (n - 1) / j * n - j * ((n - 1) / j) * ((n - 1) / j + 1) / 2 := by simp [fad, h]
    by_cases h2 : n - j ≤ j
    · have e2 : fad j (n - j) = 0 := by simp [fad, h2]
      have hq1 : (n - 1) / j = 1 := by
        have a1 : 1 ≤ (n - 1) / j := by
          have := Int.ediv_le_ediv (show (0 : Int) < j by omega) (show j ≤ n - 1 by omega)
          rwa [Int.ediv_self (by omega)] at this
        have a2 : (n - 1) / j < 2 := Int.ediv_lt_of_lt_mul (by omega) (by omega)
        omega
      rw [e1, e2, hq1]
      have : j * 1 * (1 + 1) / 2 = j := by
        have : j * 1 * (1 + 1) = j * 2 := by omega
        rw [this]; omega
      rw [this]; omega
    · have e2 : fad j (n - j) = (n - j - 1) / j * (n - j) - j * ((n - j - 1) / j) * ((n - j - 1) / j + 1) / 2 := by simp [fad, h2]
      rw [e1, e2, hq]
      generalize (n - 1) / j = q
      have hodd : (q * (q + 1)) % 2 = 0 := by
        have h' : q % 2 = 0 ∨ q % 2 = 1 := by omega
        rcases h' with h | h
        · rw [Int.mul_emod, h]; simp
        · rw [Int.mul_emod, Int.add_emod, h]; decide
      obtain ⟨t, ht⟩ : ∃ t, q * (q + 1) = 2 * t := ⟨q * (q + 1) / 2, by omega⟩
      have e3 : j * q * (q + 1) = 2 * (j * t) := by rw [Int.mul_assoc, ht, Int.mul_left_comm]
      have e4 : j * (q - 1) * (q - 1 + 1) = 2 * (j * (t - q)) := by
        have : (q - 1) * (q - 1 + 1) = 2 * (t - q) := by
          have : (q - 1) * (q - 1 + 1) = q * (q + 1) - 2 * q := by
            have : q - 1 + 1 = q := by omega
            rw [this, Int.sub_mul, Int.mul_add]; omega
          omega
        rw [Int.mul_assoc, this, Int.mul_left_comm]
      have e5 : 2 * (j * t) / 2 = j * t := by omega
      have e6 : 2 * (j * (t - q)) / 2 = j * (t - q) := by omega
      rw [e3, e4, e5, e6]
      have e7 : (q - 1) * (n - j) = q * n - q * j - n + j := by rw [Int.sub_mul, Int.mul_sub]; omega
      have e8 : j * (t - q) = j * t - q * j := by rw [Int.mul_sub, Int.mul_comm j q]
      omega

theorem fad_zero (j n : Int) (h : n ≤ j) : fad j n = 0 := by simp [fad, h]

theorem fad_mono_nonneg (j : Int) (hj : 2 ≤ j) : ∀ (k : Nat) (n m : Int), m.toNat ≤ k → n ≤ m → 0 ≤ fad j n ∧ fad j n ≤ fad j m := by
  intro k
  induction k with
  | zero =>
    intro n m hm hnm
    rw [fad_zero j n (by omega), fad_zero j m (by omega)]; omega
  | succ k ih =>
    intro n m hm hnm
    rw [fad_rec j n hj, fad_rec j m hj]
    by_cases h1 : m ≤ j
    · rw [if_pos h1, if_pos (by omega)]; omega
    · rw [if_neg h1]
      by_cases h2 : n ≤ j
      · rw [if_pos h2]
        have := ih (m - j) (m - j) (by omega) (by omega)
        omega
      · rw [if_neg h2]
        have := ih (n - j) (m - j) (by omega) (by omega)
        omega
theorem fad_mono (j n m : Int) (hj : 2 ≤ j) (h : n ≤ m) : fad j n ≤ fad j m := (fad_mono_nonneg j hj _ n m (Nat.le_refl _) h).2
theorem fad_nonneg (j n : Int) (hj : 2 ≤ j) : 0 ≤ fad j n := (fad_mono_nonneg j hj _ n n (Nat.le_refl _) (Int.le_refl _)).1

/-- The least of lo, lo + 1, .. (k of them) with P; lo + k if there is none. -/
def lst (P : Int → Bool) (lo : Int) : Nat → Int
  | 0 => lo
  | k + 1 => if P lo then lo else lst P (lo + 1) k

theorem lst_spec (P : Int → Bool) (hm : ∀ x y, P x = true → x ≤ y → P y = true) : ∀ (k : Nat) (lo : Int),
    lo ≤ lst P lo k ∧ lst P lo k ≤ lo + k ∧ (∀ x, lo ≤ x → x < lo + k → (P x = true ↔ lst P lo k ≤ x)) := by
  intro k
  induction k with
  | zero => intro lo; simp only [lst]; exact ⟨by omega, by omega, fun x h1 h2 => by omega⟩
  | succ k ih =>
    intro lo
    simp only [lst]
    by_cases h : P lo = true
    · rw [if_pos h]
      exact ⟨by omega, by omega, fun x h1 h2 => ⟨fun _ => h1, fun _ => hm lo x h h1⟩⟩
    · rw [if_neg h]
      obtain ⟨a1, a2, a3⟩ := ih (lo + 1)
      refine ⟨by omega, by omega, fun x h1 h2 => ?_⟩
      by_cases hx : x = lo
      · subst hx; exact ⟨fun h' => absurd h' h, fun h' => by omega⟩
      · exact a3 x (by omega) (by omega)

/-- May one go on with the acceleration x? -/
def okA (j v x : Int) : Bool := decide (fad j (-x) ≤ v + x)
theorem okA_mono (j v : Int) (hj : 2 ≤ j) : ∀ x y, okA j v x = true → x ≤ y → okA j v y = true := by
  intro x y h hxy
  simp only [okA, decide_eq_true_eq] at *
  have := fad_mono j (-y) (-x) hj (by omega)
  omega
/-- The next acceleration while braking. -/
def brk (a j v b : Int) : Int := lst (okA j v) (max (-a) (b - j)) (min a (b + j) - max (-a) (b - j)).toNat

/-- What brake's walk asks. -/
theorem brk_walk (a j v b : Int) (hj : 2 ≤ j) (b1 : -a ≤ b) (b2 : b ≤ a) :
    max (-a) (b - j) ≤ brk a j v b ∧ brk a j v b ≤ min a (b + j) ∧
    (∀ x, max (-a) (b - j) ≤ x → x < min a (b + j) → (fad j (-x) ≤ v + x ↔ brk a j v b ≤ x)) := by
  obtain ⟨h1, h2, h3⟩ := lst_spec (okA j v) (okA_mono j v hj) (min a (b + j) - max (-a) (b - j)).toNat (max (-a) (b - j))
  refine ⟨h1, ?_, fun x hx1 hx2 => ?_⟩
  · unfold brk; omega
  · have := h3 x hx1 (by omega)
    simp only [okA, decide_eq_true_eq] at this
    exact this

theorem saf_iff (s a j v b : Int) : saf s a j v b = true ↔ (0 ≤ v ∧ v ≤ s) ∧ (-a ≤ b ∧ b ≤ a) ∧ (if 0 < b then v + fad j b ≤ s else fad j (-b) ≤ v) := by
  simp only [saf, Bool.and_eq_true, inR_iff, and_assoc]
  by_cases h : 0 < b <;> simp [h]

/-- Braking from a safe state. -/
theorem brk_props (s a j v b : Int) (hv : vld s a j = true) (hs : saf s a j v b = true) :
    saf s a j (v + brk a j v b) (brk a j v b) = true ∧ (0 < brk a j v b → brk a j v b = b - j) ∧ (b ≤ 0 → brk a j v b ≤ 0) ∧ (b ≤ 0 → 1 ≤ v → brk a j v b ≤ -1) ∧ (b ≤ 0 → v = 0 → brk a j v b = 0) := by
  obtain ⟨⟨s1, s2⟩, ⟨a1, a2⟩, ⟨j1, j2⟩⟩ := (vld_iff s a j).1 hv
  obtain ⟨⟨v1, v2⟩, ⟨b1, b2⟩, h3⟩ := (saf_iff s a j v b).1 hs
  obtain ⟨c1, c2, c3⟩ := brk_walk a j v b j1 b1 b2
  generalize hc : brk a j v b = c at *
  -- every x that is not negative will do
  have hpos : ∀ x, 0 ≤ x → fad j (-x) ≤ v + x := fun x hx => by rw [fad_zero j (-x) (by omega)]; omega
  have hle : ∀ x, max (-a) (b - j) ≤ x → x ≤ min a (b + j) → fad j (-x) ≤ v + x → c ≤ x := fun x x1 x2 hx => by
    by_cases hxl : x < min a (b + j)
    · exact (c3 x x1 hxl).1 hx
    · omega
  -- there is one that will do, not above max 0 (b - j)
  have hsome : fad j (-c) ≤ v + c := by
    by_cases hcl : c < min a (b + j)
    · exact (c3 c c1 hcl).2 (Int.le_refl _)
    · have hcm : c = min a (b + j) := by omega
      by_cases hc0 : 0 ≤ c
      · exact hpos c hc0
      · have hb : b + j < 0 := by omega
        have hcb : c = b + j := by omega
        rw [if_neg (by omega)] at h3
        rw [fad_rec j (-b) j1, if_neg (by omega)] at h3
        have : -b - j = -c := by omega
        rw [this] at h3
        omega
  have hneg : b ≤ 0 → c ≤ 0 := fun hb => by
    by_cases h : b + j < 0
    · omega
    · exact hle 0 (by omega) (by omega) (hpos 0 (by omega))
  have hposc : 0 < c → c = b - j := fun h => by
    by_cases hb : b - j ≤ 0
    · by_cases hb0 : b ≤ 0
      · have := hneg hb0; omega
      · have := hle 0 (by omega) (by omega) (hpos 0 (by omega)); omega
    · have := hle (b - j) (by omega) (by omega) (hpos _ (by omega)); omega
  refine ⟨?_, hposc, hneg, ?_, ?_⟩
  · rw [saf_iff]
    have f0 := fad_nonneg j (-c) j1
    refine ⟨⟨by omega, ?_⟩, ⟨by omega, by omega⟩, ?_⟩
    · by_cases h : 0 < c
      · have e := hposc h
        rw [if_pos (by omega)] at h3
        have f1 := fad_nonneg j (b - j) j1
        rw [fad_rec j b j1, if_neg (by omega)] at h3
        omega
      · omega
    · by_cases h : 0 < c
      · rw [if_pos h]
        have e := hposc h
        rw [if_pos (by omega)] at h3
        rw [fad_rec j b j1, if_neg (by omega)] at h3
        rw [e]; omega
      · rw [if_neg h]; omega
  · intro hb hv1
    by_cases hbj : b + j < -1
    · omega
    · by_cases hbj2 : b + j < 0
      · have := hle (-1) (by omega) (by omega) (by rw [fad_zero j _ (by omega)]; omega); omega
      · exact hle (-1) (by omega) (by omega) (by rw [fad_zero j _ (by omega)]; omega)
  · intro hb hv0
    have h0 := hneg hb
    have f0 := fad_nonneg j (-c) j1
    omega

/-- How long braking may take. -/
def mu (s v b : Int) : Nat := if 0 < b then (b + s + 2).toNat else if v = 0 ∧ b = 0 then 0 else (v + 1).toNat

theorem mu_lt (s a j v b : Int) (hv : vld s a j = true) (hs : saf s a j v b = true) (hne : ¬ (v = 0 ∧ b = 0)) : mu s (v + brk a j v b) (brk a j v b) < mu s v b := by
  obtain ⟨p1, p2, p3, p4, p5⟩ := brk_props s a j v b hv hs
  obtain ⟨⟨v1, v2⟩, ⟨b1, b2⟩, h3⟩ := (saf_iff s a j v b).1 hs
  obtain ⟨⟨v1', v2'⟩, _, _⟩ := (saf_iff _ _ _ _ _).1 p1
  obtain ⟨⟨s1, s2⟩, ⟨a1, a2⟩, ⟨j1, j2⟩⟩ := (vld_iff s a j).1 hv
  generalize brk a j v b = c at *
  unfold mu
  by_cases hb : 0 < b
  · rw [if_pos hb]
    by_cases hc : 0 < c
    · rw [if_pos hc]; have := p2 hc; omega
    · rw [if_neg hc]; split <;> omega
  · have := p3 (by omega)
    rw [if_neg hb, if_neg hne, if_neg (by omega)]
    by_cases hv1 : 1 ≤ v
    · have := p4 (by omega) hv1
      split <;> omega
    · have := p5 (by omega) (by omega)
      rw [if_pos (by omega)]; omega

/-- The speeds while braking. -/
def brakes (a j : Int) : Nat → Int → Int → List Int
  | 0, _, _ => []
  | k + 1, v, b => if v = 0 ∧ b = 0 then [] else (v + brk a j v b) :: brakes a j k (v + brk a j v b) (brk a j v b)


theorem brakes_fuel (s a j : Int) (hv : vld s a j = true) : ∀ (n : Nat) (v b : Int), saf s a j v b = true → mu s v b ≤ n → ∀ k, n ≤ k → brakes a j k v b = brakes a j n v b := by
  intro n
  induction n with
  | zero =>
    intro v b hs hm k hk
    have h0 : v = 0 ∧ b = 0 := Classical.byContradiction fun h => by
      have := mu_lt s a j v b hv hs h; omega
    cases k with
    | zero => rfl
    | succ k => simp [brakes, h0]
  | succ n ih =>
    intro v b hs hm k hk
    obtain ⟨k, rfl⟩ : ∃ k', k = k' + 1 := ⟨k - 1, by omega⟩
    simp only [brakes]
    by_cases h0 : v = 0 ∧ b = 0
    · rw [if_pos h0, if_pos h0]
    · rw [if_neg h0, if_neg h0]
      have := mu_lt s a j v b hv hs h0
      rw [ih _ _ (brk_props s a j v b hv hs).1 (by omega) k (by omega)]

/-- The speeds while braking, all of them. -/
def blist (s a j v b : Int) : List Int := brakes a j (mu s v b) v b

theorem blist_rest (s a j : Int) : blist s a j 0 0 = [] := by simp [blist, mu, brakes]
theorem blist_cons (s a j v b : Int) (hv : vld s a j = true) (hs : saf s a j v b = true) (h0 : ¬ (v = 0 ∧ b = 0)) :
    blist s a j v b = (v + brk a j v b) :: blist s a j (v + brk a j v b) (brk a j v b) := by
  have hm := mu_lt s a j v b hv hs h0
  obtain ⟨n, hn⟩ : ∃ n, mu s v b = n + 1 := ⟨mu s v b - 1, by omega⟩
  unfold blist
  rw [hn]
  simp only [brakes]
  rw [if_neg h0]
  rw [brakes_fuel s a j hv (mu s (v + brk a j v b) (brk a j v b)) _ _ (brk_props s a j v b hv hs).1 (Nat.le_refl _) n (by omega)]

/-- Their sum. -/
def dsum (s a j v b : Int) : Int := (blist s a j v b).sum

theorem dsum_cons (s a j v b : Int) (hv : vld s a j = true) (hs : saf s a j v b = true) (h0 : ¬ (v = 0 ∧ b = 0)) :
    dsum s a j v b = (v + brk a j v b) + dsum s a j (v + brk a j v b) (brk a j v b) := by
  unfold dsum; rw [blist_cons s a j v b hv hs h0, List.sum_cons]
theorem dsum_rest (s a j : Int) : dsum s a j 0 0 = 0 := by unfold dsum; rw [blist_rest]; rfl

theorem mu_le (s a j v b : Int) (hv : vld s a j = true) (hs : saf s a j v b = true) : mu s v b ≤ 200002 := by
  obtain ⟨⟨v1, v2⟩, ⟨b1, b2⟩, h3⟩ := (saf_iff s a j v b).1 hs
  obtain ⟨⟨s1, s2⟩, ⟨a1, a2⟩, ⟨j1, j2⟩⟩ := (vld_iff s a j).1 hv
  unfold mu; split
  · omega
  · split <;> omega

theorem dsum_bound (s a j : Int) (hv : vld s a j = true) : ∀ (n : Nat) (v b : Int), saf s a j v b = true → mu s v b ≤ n → 0 ≤ dsum s a j v b ∧ dsum s a j v b ≤ 100000 * n := by
  intro n
  induction n with
  | zero =>
    intro v b hs hm
    have h0 : v = 0 ∧ b = 0 := Classical.byContradiction fun h => by
      have := mu_lt s a j v b hv hs h; omega
    obtain ⟨rfl, rfl⟩ := h0
    rw [dsum_rest]; omega
  | succ n ih =>
    intro v b hs hm
    by_cases h0 : v = 0 ∧ b = 0
    · obtain ⟨rfl, rfl⟩ := h0
      rw [dsum_rest]; omega
    · have hlt := mu_lt s a j v b hv hs h0
      have hs' := (brk_props s a j v b hv hs).1
      have := ih _ _ hs' (by omega)
      rw [dsum_cons s a j v b hv hs h0]
      obtain ⟨⟨v1, v2⟩, _, _⟩ := (saf_iff _ _ _ _ _).1 hs'
      obtain ⟨⟨s1, s2⟩, _, _⟩ := (vld_iff s a j).1 hv
      omega
theorem dsum_le (s a j v b : Int) (hv : vld s a j = true) (hs : saf s a j v b = true) : 0 ≤ dsum s a j v b ∧ dsum s a j v b ≤ 20000200000 := by
  have h1 := dsum_bound s a j hv _ v b hs (Nat.le_refl _)
  have h2 := mu_le s a j v b hv hs
  omega


theorem blist_len (s a j v b : Int) : (blist s a j v b).length ≤ mu s v b := by
  have : ∀ (k : Nat) (v b : Int), (brakes a j k v b).length ≤ k := by
    intro k
    induction k with
    | zero => intro v b; simp [brakes]
    | succ k ih =>
      intro v b
      simp only [brakes]
      split
      · simp
      · simp only [List.length_cons]; have := ih (v + brk a j v b) (brk a j v b); omega
  exact this _ v b

/-- The distances of Stop. -/
def stops (s a j v b : Int) : List Int := (blist s a j v b).filter (fun x => decide (0 < x))
theorem stops_rest (s a j : Int) : stops s a j 0 0 = [] := by simp [stops, blist_rest]
theorem stops_cons (s a j v b : Int) (hv : vld s a j = true) (hs : saf s a j v b = true) (h0 : ¬ (v = 0 ∧ b = 0)) :
    stops s a j v b = if 0 < v + brk a j v b then (v + brk a j v b) :: stops s a j (v + brk a j v b) (brk a j v b) else stops s a j (v + brk a j v b) (brk a j v b) := by
  unfold stops; rw [blist_cons s a j v b hv hs h0, List.filter_cons]; simp
theorem stops_len (s a j v b : Int) (hv : vld s a j = true) (hs : saf s a j v b = true) : (stops s a j v b).length ≤ 200002 := by
  have h1 := List.length_filter_le (fun x : Int => decide (0 < x)) (blist s a j v b)
  have h2 := blist_len s a j v b
  have h3 := mu_le s a j v b hv hs
  unfold stops; omega

/-- May one brake? -/
def mvg (s a j p q : Int) : Bool := vld s a j && inR p 0 s && inR q 0 s && saf s a j q (q - p)
theorem mvg_iff (s a j p q : Int) : mvg s a j p q = true ↔ vld s a j = true ∧ (0 ≤ p ∧ p ≤ s) ∧ (0 ≤ q ∧ q ≤ s) ∧ saf s a j q (q - p) = true := by
  simp only [mvg, Bool.and_eq_true, inR_iff, and_assoc]

end Go.Proofs.Ytcblahhfgkafhaa
