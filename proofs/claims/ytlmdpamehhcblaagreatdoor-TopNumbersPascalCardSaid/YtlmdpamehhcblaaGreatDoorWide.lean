/- Plain laws on words of a base 10^9: the words of a number, how many there are, sums of words, their order, quotients. No program in sight. -/
namespace Go.Proofs.YtlmdpamehhcblaaGreatDoorV

/-- The base. -/
def B : Nat := 1000000000
theorem B_eq : B = 1000000000 := rfl
theorem B_pos : 0 < B := by decide
theorem Bp_pos (i : Nat) : 0 < B ^ i := Nat.pow_pos B_pos
/-- Word i of a number. -/
def wd (v i : Nat) : Nat := v / B ^ i % B
theorem wd_lt (v i : Nat) : wd v i < B := Nat.mod_lt _ B_pos
/-- How many words a number has. -/
def nw (v : Nat) : Nat := if h : v = 0 then 0 else nw (v / B) + 1
termination_by v
decreasing_by exact Nat.div_lt_self (by omega) (by decide)
theorem nw_zero : nw 0 = 0 := by rw [nw, dif_pos rfl]
theorem nw_pos {v : Nat} (h : v ≠ 0) : nw v = nw (v / B) + 1 := by rw [nw, dif_neg h]
theorem lt_pow_nw (v : Nat) : v < B ^ nw v := by
  induction v using Nat.strongRecOn with
  | _ v ih =>
    by_cases h : v = 0
    · subst h; rw [nw_zero]; decide
    · rw [nw_pos h, Nat.pow_succ]
      have := ih (v / B) (Nat.div_lt_self (by omega) (by decide))
      exact (Nat.div_lt_iff_lt_mul B_pos).1 this
theorem nw_le_iff (v n : Nat) : nw v ≤ n ↔ v < B ^ n := by
  constructor
  · intro h; exact Nat.lt_of_lt_of_le (lt_pow_nw v) (Nat.pow_le_pow_right B_pos h)
  · intro h
    induction n generalizing v with
    | zero => simp at h; subst h; rw [nw_zero]; omega
    | succ n ih =>
      by_cases h0 : v = 0
      · subst h0; rw [nw_zero]; omega
      · rw [nw_pos h0]
        have := ih (v / B) ((Nat.div_lt_iff_lt_mul B_pos).2 (by rwa [Nat.pow_succ] at h))
        omega
theorem nw_mono {u v : Nat} (h : u ≤ v) : nw u ≤ nw v := (nw_le_iff _ _).2 (Nat.lt_of_le_of_lt h (lt_pow_nw v))
theorem wd_zero_of {v i : Nat} (h : nw v ≤ i) : wd v i = 0 := by
  unfold wd
  rw [Nat.div_eq_of_lt ((nw_le_iff _ _).1 h)]; rfl
theorem pow_le_of_nw {v : Nat} (h : v ≠ 0) : B ^ (nw v - 1) ≤ v := by
  apply Nat.le_of_not_lt
  intro hl
  have := (nw_le_iff v (nw v - 1)).2 hl
  rw [nw_pos h] at this
  omega
theorem nw_ne_zero {v : Nat} (h : v ≠ 0) : nw v ≠ 0 := by rw [nw_pos h]; omega
theorem eq_zero_of_nw {v : Nat} (h : nw v = 0) : v = 0 := by
  by_cases e : v = 0
  · exact e
  · exact absurd h (nw_ne_zero e)
theorem wd_top {v : Nat} (h : v ≠ 0) : wd v (nw v - 1) ≠ 0 := by
  unfold wd
  have h1 := pow_le_of_nw h
  have h2 := lt_pow_nw v
  have e : nw v = nw v - 1 + 1 := by have := nw_ne_zero h; omega
  have h3 : v / B ^ (nw v - 1) < B := by
    apply (Nat.div_lt_iff_lt_mul (Bp_pos _)).2
    rw [e, Nat.pow_succ] at h2
    rw [Nat.mul_comm]; exact h2
  rw [Nat.mod_eq_of_lt h3]
  have := Nat.div_pos h1 (Bp_pos _)
  omega
theorem div_succ (v i : Nat) : v / B ^ i = v / B ^ (i + 1) * B + wd v i := by
  unfold wd
  rw [Nat.pow_succ, ← Nat.div_div_eq_div_mul]
  have := Nat.div_add_mod (v / B ^ i) B
  rw [Nat.mul_comm]; exact this.symm
theorem mod_succ (v i : Nat) : v % B ^ (i + 1) = v % B ^ i + wd v i * B ^ i := by
  unfold wd
  rw [Nat.pow_succ, Nat.mod_mul, Nat.mul_comm (v / B ^ i % B)]
theorem mod_nw (v i : Nat) (h : nw v ≤ i) : v % B ^ i = v := Nat.mod_eq_of_lt ((nw_le_iff _ _).1 h)
theorem wd_one {v : Nat} (h : v < B) : wd v 0 = v := by unfold wd; rw [Nat.pow_zero, Nat.div_one, Nat.mod_eq_of_lt h]

/-! ### Order -/
theorem lt_of_nw {x y : Nat} (h : nw x < nw y) : x < y := by
  apply Nat.lt_of_not_le
  intro hl
  have := nw_mono hl
  omega
/-- The first word from above that differs decides. -/
theorem lt_of_word {x y i : Nat} (h : x / B ^ (i + 1) = y / B ^ (i + 1)) (hw : wd x i < wd y i) : x < y := by
  apply Nat.lt_of_not_le
  intro hl
  have h1 : y / B ^ i ≤ x / B ^ i := Nat.div_le_div_right hl
  rw [div_succ x i, div_succ y i, h] at h1
  omega
theorem div_eq_step {x y i : Nat} (h : x / B ^ (i + 1) = y / B ^ (i + 1)) (hw : wd x i = wd y i) : x / B ^ i = y / B ^ i := by
  rw [div_succ x i, div_succ y i, h, hw]
theorem div_top_eq {x y : Nat} (h : nw x = nw y) : x / B ^ nw x = y / B ^ nw x := by
  rw [Nat.div_eq_of_lt (lt_pow_nw x), h, Nat.div_eq_of_lt (lt_pow_nw y)]

/-! ### Sums of words -/
/-- What the first n words come to. -/
def tot (f : Nat → Int) : Nat → Int
  | 0 => 0
  | n + 1 => tot f n + f n * (B ^ n : Nat)
theorem tot_zero (f : Nat → Int) : tot f 0 = 0 := by simp only [tot]
theorem tot_succ (f : Nat → Int) (n : Nat) : tot f (n + 1) = tot f n + f n * (B ^ n : Nat) := by simp only [tot]
/-- One word is written. -/
def upd (f : Nat → Int) (i : Nat) (v : Int) : Nat → Int := fun j => if j = i then v else f j
theorem upd_same (f : Nat → Int) (i : Nat) (v : Int) : upd f i v i = v := by simp [upd]
theorem upd_other (f : Nat → Int) {i j : Nat} (v : Int) (h : j ≠ i) : upd f i v j = f j := by simp [upd, h]
theorem tot_upd_ge (f : Nat → Int) (i : Nat) (v : Int) : ∀ n, n ≤ i → tot (upd f i v) n = tot f n
  | 0, _ => by rw [tot_zero, tot_zero]
  | n + 1, h => by rw [tot_succ, tot_succ, tot_upd_ge f i v n (by omega), upd_other _ _ (by omega)]
theorem tot_upd (f : Nat → Int) (i : Nat) (v : Int) : ∀ n, i < n → tot (upd f i v) n = tot f n + (v - f i) * (B ^ i : Nat)
  | n + 1, h => by
    rw [tot_succ, tot_succ]
    by_cases e : i = n
    · subst e
      rw [tot_upd_ge f i v i (Nat.le_refl _), upd_same, Int.sub_mul]
      omega
    · rw [tot_upd f i v n (by omega), upd_other _ _ (by omega)]
      omega
theorem tot_nonneg {f : Nat → Int} (h : ∀ j, 0 ≤ f j) : ∀ n, 0 ≤ tot f n
  | 0 => by rw [tot_zero]; omega
  | n + 1 => by
    rw [tot_succ]
    have h1 := tot_nonneg h n
    have h2 : 0 ≤ f n * ((B ^ n : Nat) : Int) := Int.mul_nonneg (h n) (by omega)
    omega
theorem tot_lt {f : Nat → Int} (h0 : ∀ j, 0 ≤ f j) (h1 : ∀ j, f j < (B : Int)) : ∀ n, tot f n < ((B ^ n : Nat) : Int)
  | 0 => by rw [tot_zero]; simp
  | n + 1 => by
    rw [tot_succ, Nat.pow_succ]
    have hn := tot_lt h0 h1 n
    have h2 : f n * ((B ^ n : Nat) : Int) ≤ ((B : Int) - 1) * ((B ^ n : Nat) : Int) := Int.mul_le_mul_of_nonneg_right (by have := h1 n; omega) (by omega)
    rw [Int.sub_mul, Int.one_mul] at h2
    rw [Int.natCast_mul, Int.mul_comm ((B ^ n : Nat) : Int)]
    omega
/-- The words of a sum of words are they. -/
theorem wd_tot {f : Nat → Int} (h0 : ∀ j, 0 ≤ f j) (h1 : ∀ j, f j < (B : Int)) : ∀ n j, j < n → (wd (tot f n).toNat j : Int) = f j
  | n + 1, j, hj => by
    have t0 := tot_nonneg h0 n
    have t1 := tot_lt h0 h1 n
    obtain ⟨a, ha⟩ := Int.eq_ofNat_of_zero_le t0
    obtain ⟨c, hc⟩ := Int.eq_ofNat_of_zero_le (h0 n)
    have e : (tot f (n + 1)).toNat = a + c * B ^ n := by
      rw [tot_succ, ha, hc, ← Int.natCast_mul, ← Int.natCast_add, Int.toNat_natCast]
    have hac : a < B ^ n := by omega
    have hcB : c < B := by have := h1 n; omega
    rw [e]
    by_cases ej : j = n
    · subst ej
      unfold wd
      rw [Nat.add_mul_div_right _ _ (Bp_pos _), Nat.div_eq_of_lt hac, Nat.zero_add, Nat.mod_eq_of_lt hcB, hc]
    · have ih := wd_tot h0 h1 n j (by omega)
      rw [ha, Int.toNat_natCast] at ih
      rw [← ih]
      congr 1
      unfold wd
      have e2 : B ^ n = B ^ j * (B * B ^ (n - j - 1)) := by
        rw [← Nat.mul_assoc, ← Nat.pow_succ, ← Nat.pow_add]; congr 1; omega
      rw [e2, show c * (B ^ j * (B * B ^ (n - j - 1))) = B ^ j * (B * (c * B ^ (n - j - 1))) by
        simp only [Nat.mul_left_comm], Nat.add_mul_div_left _ _ (Bp_pos _), Nat.add_mul_mod_self_left]
/-- A number is what its words come to. -/
theorem tot_wd (v : Nat) : ∀ n, tot (fun j => (wd v j : Int)) n = ((v % B ^ n : Nat) : Int)
  | 0 => by rw [tot_zero, Nat.pow_zero, Nat.mod_one]; rfl
  | n + 1 => by rw [tot_succ, tot_wd v n, mod_succ, Int.natCast_add, Int.natCast_mul]

/-! ### One round of carry -/
/-- Go's quotient and its correction are the quotient rounded down. -/
theorem carry_floor (s : Int) : let q := s.tdiv 1000000000; let r := s - q * 1000000000;
    (r < 0 → 0 ≤ r + 1000000000 ∧ r + 1000000000 < 1000000000 ∧ (q - 1) * 1000000000 + (r + 1000000000) = s) ∧ (¬ r < 0 → r < 1000000000 ∧ q * 1000000000 + r = s) := by
  intro q r
  have h1 : s = 1000000000 * q + s.tmod 1000000000 := (Int.mul_tdiv_add_tmod s 1000000000).symm
  have h2 : s.tmod 1000000000 < 1000000000 := Int.tmod_lt_of_pos s (by decide)
  have h3 : -1000000000 < s.tmod 1000000000 := by
    have := Int.lt_tmod_of_pos s (show (0 : Int) < 1000000000 by decide)
    omega
  constructor
  · intro h; omega
  · intro h; omega

/-! ### carry's loop: what holds at each round's head -/
/-- f: the words; n: how many are in use; i: the round. -/
structure CInv (X y : Nat) (k : Int) (s i : Nat) (rest : Int) (f : Nat → Int) (n : Nat) : Prop where
  lo : ∀ j, 0 ≤ f j
  hi : ∀ j, f j < (B : Int)
  top : ∀ j, n ≤ j → f j = 0
  le : n ≤ 232
  eq : tot f 232 + rest * (B ^ (i + s) : Nat) = X + k * (y % B ^ i : Nat) * (B ^ s : Nat)
  r0 : -(B : Int) ≤ rest
  r1 : rest ≤ (B : Int)

theorem tot_top {f : Nat → Int} {n : Nat} (h : ∀ j, n ≤ j → f j = 0) : ∀ m, n ≤ m → tot f m = tot f n
  | 0, hm => by rw [show n = 0 by omega]
  | m + 1, hm => by
    by_cases e : n = m + 1
    · rw [e]
    · rw [tot_succ, h m (by omega), tot_top h m (by omega)]; omega
theorem wd_lo (v j : Nat) : (0 : Int) ≤ (wd v j : Int) := by omega
theorem wd_hi (v j : Nat) : (wd v j : Int) < (B : Int) := by have := wd_lt v j; omega

theorem CInv.start {X y : Nat} (k : Int) (s : Nat) (hX : nw X ≤ 232) : CInv X y k s 0 0 (fun j => (wd X j : Int)) (nw X) where
  lo := wd_lo X
  hi := wd_hi X
  top := fun j hj => by rw [wd_zero_of hj]; rfl
  le := hX
  eq := by
    rw [tot_wd, mod_nw X 232 hX, Nat.pow_zero, Nat.mod_one]
    simp
  r0 := by rw [B_eq]; decide
  r1 := by rw [B_eq]; decide

/-- In the array: as long as words are left, or a carry. -/
theorem CInv.room {X y : Nat} {k : Int} {s i : Nat} {rest : Int} {f : Nat → Int} {n : Nat} (h : CInv X y k s i rest f n) (hy : nw y + s ≤ 232)
    (h0 : 0 ≤ (X : Int) + k * y * (B ^ s : Nat)) (h1 : (X : Int) + k * y * (B ^ s : Nat) < (B ^ 232 : Nat)) (hgo : i < nw y ∨ rest ≠ 0) : i + s < 232 := by
  apply Nat.lt_of_not_le
  intro hle
  have hi : nw y ≤ i := by omega
  have hr : rest ≠ 0 := by omega
  have e := h.eq
  rw [mod_nw y i hi] at e
  have t0 := tot_nonneg h.lo 232
  have t1 := tot_lt h.lo h.hi 232
  have hp : ((B ^ 232 : Nat) : Int) ≤ ((B ^ (i + s) : Nat) : Int) := by
    have := Nat.pow_le_pow_right B_pos hle
    exact Int.ofNat_le.2 this
  generalize ((B ^ (i + s) : Nat) : Int) = p at *
  generalize ((B ^ 232 : Nat) : Int) = p2 at *
  rcases Int.lt_or_gt_of_ne hr with hneg | hpos
  · have : rest * p ≤ -1 * p := Int.mul_le_mul_of_nonneg_right (by omega) (by omega)
    omega
  · have : 1 * p ≤ rest * p := Int.mul_le_mul_of_nonneg_right (by omega) (by omega)
    omega

/-- One round: the sum is q times the base, and r. -/
theorem CInv.step {X y : Nat} {k : Int} {s i : Nat} {rest : Int} {f : Nat → Int} {n : Nat} (h : CInv X y k s i rest f n) (hk0 : -(B : Int) < k) (hk1 : k < (B : Int)) (hr : i + s < 232)
    {q r : Int} (hq : q * (B : Int) + r = f (i + s) + rest + k * (wd y i : Nat)) (hr0 : 0 ≤ r) (hr1 : r < (B : Int)) :
    CInv X y k s (i + 1) q (upd f (i + s) r) (max n (i + s + 1)) where
  lo := fun j => by
    by_cases e : j = i + s
    · rw [e, upd_same]; exact hr0
    · rw [upd_other _ _ e]; exact h.lo j
  hi := fun j => by
    by_cases e : j = i + s
    · rw [e, upd_same]; exact hr1
    · rw [upd_other _ _ e]; exact h.hi j
  top := fun j hj => by rw [upd_other _ _ (by omega)]; exact h.top j (by omega)
  le := by have := h.le; omega
  eq := by
    have hq' : q * (B : Int) = f (i + s) + rest + k * (wd y i : Nat) - r := by omega
    rw [tot_upd f (i + s) r 232 hr, show i + 1 + s = i + s + 1 by omega, Nat.pow_succ, mod_succ]
    have e := h.eq
    have hp : ((B ^ (i + s) * B : Nat) : Int) = (B ^ (i + s) : Nat) * (B : Int) := Int.natCast_mul _ _
    have hs : ((B ^ (i + s) : Nat) : Int) = (B ^ i : Nat) * (B ^ s : Nat) := by rw [Nat.pow_add, Int.natCast_mul]
    rw [hp]
    have h2 : q * ((B ^ (i + s) : Nat) * (B : Int)) = (f (i + s) + rest + k * (wd y i : Nat) - r) * (B ^ (i + s) : Nat) := by
      rw [← hq', Int.mul_assoc, Int.mul_comm (B : Int)]
    rw [h2, Int.natCast_add, Int.natCast_mul]
    have h3 : k * ((y % B ^ i : Nat) + (wd y i : Nat) * (B ^ i : Nat)) * (B ^ s : Nat) = k * (y % B ^ i : Nat) * (B ^ s : Nat) + k * (wd y i : Nat) * (B ^ (i + s) : Nat) := by
      rw [hs, Int.mul_add, Int.add_mul, ← Int.mul_assoc k, Int.mul_assoc (k * (wd y i : Nat))]
    rw [h3, ← Int.add_assoc, ← e]
    simp only [Int.sub_mul, Int.add_mul]
    clear h2 h3 e hp hs hq hq' hr0 hr1 hk0 hk1 hr h
    generalize r * ((B ^ (i + s) : Nat) : Int) = a1
    generalize f (i + s) * ((B ^ (i + s) : Nat) : Int) = a2
    generalize rest * ((B ^ (i + s) : Nat) : Int) = a3
    generalize k * ((wd y i : Nat) : Int) * ((B ^ (i + s) : Nat) : Int) = a4
    omega
  r0 := by
    have a := h.lo (i + s); have b := h.hi (i + s); have c := h.r0; have d := h.r1
    have w := wd_lt y i
    have m1 : -((B : Int) - 1) * ((B : Int) - 1) ≤ k * (wd y i : Nat) := by
      have x1 : -((B : Int) - 1) * (wd y i : Nat) ≤ k * (wd y i : Nat) := Int.mul_le_mul_of_nonneg_right (by omega) (by omega)
      have x2 : ((B : Int) - 1) * (wd y i : Nat) ≤ ((B : Int) - 1) * ((B : Int) - 1) := Int.mul_le_mul_of_nonneg_left (by omega) (by rw [B_eq]; decide)
      rw [Int.neg_mul] at x1 ⊢
      omega
    rw [B_eq] at *
    simp at *
    omega
  r1 := by
    have a := h.lo (i + s); have b := h.hi (i + s); have c := h.r0; have d := h.r1
    have w := wd_lt y i
    have m1 : k * (wd y i : Nat) ≤ ((B : Int) - 1) * ((B : Int) - 1) := by
      have x1 : k * (wd y i : Nat) ≤ ((B : Int) - 1) * (wd y i : Nat) := Int.mul_le_mul_of_nonneg_right (by omega) (by omega)
      have x2 : ((B : Int) - 1) * (wd y i : Nat) ≤ ((B : Int) - 1) * ((B : Int) - 1) := Int.mul_le_mul_of_nonneg_left (by omega) (by rw [B_eq]; decide)
      omega
    rw [B_eq] at *
    simp at *
    omega

/-- Behind the last round. -/
theorem CInv.done {X y : Nat} {k : Int} {s i : Nat} {f : Nat → Int} {n : Nat} (h : CInv X y k s i 0 f n) (hi : nw y ≤ i) {V : Nat} (hV : (V : Int) = X + k * y * (B ^ s : Nat)) :
    (∀ j, j < 232 → f j = (wd V j : Int)) ∧ (∀ j, n ≤ j → wd V j = 0) ∧ V < B ^ 232 := by
  have e := h.eq
  rw [mod_nw y i hi, Int.zero_mul, Int.add_zero, ← hV] at e
  have ht : (tot f 232).toNat = V := by rw [e]; simp
  have t1 := tot_lt h.lo h.hi 232
  have hVB : V < B ^ 232 := by rw [e] at t1; exact Int.ofNat_lt.1 t1
  have hw : ∀ j, j < 232 → f j = (wd V j : Int) := fun j hj => by rw [← wd_tot h.lo h.hi 232 j hj, ht]
  refine ⟨hw, fun j hj => ?_, hVB⟩
  by_cases hj2 : j < 232
  · have h1 := hw j hj2
    rw [h.top j hj] at h1
    omega
  · exact wd_zero_of (Nat.le_trans ((nw_le_iff V 232).2 hVB) (by omega))

/-- Leading words of 0 left out, the number of words is right. -/
theorem nw_eq {V n : Nat} (h0 : ∀ j, n ≤ j → wd V j = 0) (h1 : n ≠ 0 → wd V (n - 1) ≠ 0) : n = nw V := by
  have a : nw V ≤ n := by
    apply Nat.le_of_not_lt
    intro hl
    have hne : V ≠ 0 := fun e => by rw [e, nw_zero] at hl; omega
    exact wd_top hne (h0 (nw V - 1) (by omega))
  have b : n ≤ nw V := by
    apply Nat.le_of_not_lt
    intro hl
    exact h1 (by omega) (wd_zero_of (by omega))
  omega

/-! ### Division, word by word -/
theorem two_words (x n : Nat) (hn : 1 ≤ n) : (wd x n * B + wd x (n - 1)) * B ^ (n - 1) ≤ x := by
  have e : n = n - 1 + 1 := by omega
  have h1 := div_succ x (n - 1)
  have h2 := div_succ x n
  rw [← e] at h1
  have h3 : wd x n * B ≤ x / B ^ n * B := Nat.mul_le_mul_right _ (by omega)
  have h4 : wd x n * B + wd x (n - 1) ≤ x / B ^ (n - 1) := by omega
  exact Nat.le_trans (Nat.mul_le_mul_right _ h4) (Nat.div_mul_le_self _ _)
/-- An estimate of a quotient is never too great. -/
theorem est_le {x y k : Nat} (hy : y ≠ 0) (hxy : y ≤ x) (hk : k * (wd y (nw y - 1) + if 1 < nw y then 1 else 0) ≤ wd x (nw y) * B + wd x (nw y - 1) ∨ k = 1) : k * y ≤ x := by
  rcases hk with hk | hk
  · have hn : 1 ≤ nw y := by have := nw_ne_zero hy; omega
    have h1 := two_words x (nw y) hn
    have h2 : y ≤ (wd y (nw y - 1) + if 1 < nw y then 1 else 0) * B ^ (nw y - 1) := by
      have e : nw y = nw y - 1 + 1 := by omega
      have hd := div_succ y (nw y - 1)
      rw [← e, Nat.div_eq_of_lt (lt_pow_nw y)] at hd
      have hm := Nat.div_add_mod y (B ^ (nw y - 1))
      rw [hd] at hm
      have hl := Nat.mod_lt y (Bp_pos (nw y - 1))
      by_cases h : 1 < nw y
      · rw [if_pos h, Nat.add_mul, Nat.one_mul]
        rw [Nat.zero_mul, Nat.zero_add, Nat.mul_comm] at hm
        omega
      · rw [if_neg h, Nat.add_zero]
        rw [show nw y - 1 = 0 by omega] at hm hl ⊢
        rw [Nat.pow_zero] at hm hl ⊢
        rw [Nat.zero_mul, Nat.zero_add] at hm
        omega
    have h3 := Nat.mul_le_mul_left k h2
    rw [← Nat.mul_assoc] at h3
    have h4 := Nat.mul_le_mul_right (B ^ (nw y - 1)) hk
    exact Nat.le_trans h3 (Nat.le_trans h4 h1)
  · rw [hk]; omega
theorem div_word (x y i : Nat) : (x / B ^ (i + 1) % y * B + wd x i) % y = x / B ^ i % y ∧ (y ≠ 0 → (x / B ^ (i + 1) % y * B + wd x i) / y = wd (x / y) i) := by
  have e := div_succ x i
  have hm := Nat.div_add_mod (x / B ^ (i + 1)) y
  generalize hQ : x / B ^ (i + 1) / y = Q at hm
  generalize hr : x / B ^ (i + 1) % y = r at hm ⊢
  have e2 : x / B ^ i = y * (Q * B) + (r * B + wd x i) := by
    rw [e, ← hm, Nat.add_mul, ← Nat.mul_assoc, Nat.add_assoc]
  constructor
  · rw [e2, Nat.mul_add_mod]
  · intro hy
    have h3 : x / B ^ i / y = Q * B + (r * B + wd x i) / y := by
      rw [e2, Nat.mul_add_div (by omega)]
    have h4 : wd (x / y) i = (Q * B + (r * B + wd x i) / y) % B := by
      unfold wd
      rw [Nat.div_div_eq_div_mul, Nat.mul_comm y, ← Nat.div_div_eq_div_mul, h3]
      rfl
    rw [h4, Nat.mul_comm Q, Nat.mul_add_mod, Nat.mod_eq_of_lt]
    apply (Nat.div_lt_iff_lt_mul (by omega)).2
    have h5 : r < y := by rw [← hr]; exact Nat.mod_lt _ (by omega)
    have h6 := wd_lt x i
    have h7 : (r + 1) * B ≤ y * B := Nat.mul_le_mul_right _ h5
    rw [Nat.add_mul, Nat.one_mul] at h7
    rw [Nat.mul_comm B]
    omega
/-- A word put in at the low end. -/
theorem nw_push (r w : Nat) (hw : w < B) : nw (r * B + w) ≤ nw r + 1 := by
  apply (nw_le_iff _ _).2
  have := lt_pow_nw r
  rw [Nat.pow_succ]
  have h2 : (r + 1) * B ≤ B ^ nw r * B := Nat.mul_le_mul_right _ this
  rw [Nat.add_mul, Nat.one_mul] at h2
  omega
theorem wd_push_zero (r w : Nat) (hw : w < B) : wd (r * B + w) 0 = w := by
  unfold wd
  rw [Nat.pow_zero, Nat.div_one, Nat.mul_comm, Nat.mul_add_mod, Nat.mod_eq_of_lt hw]
theorem wd_push_succ (r w j : Nat) (hw : w < B) : wd (r * B + w) (j + 1) = wd r j := by
  unfold wd
  rw [Nat.pow_succ, Nat.mul_comm (B ^ j), ← Nat.div_div_eq_div_mul, Nat.mul_comm r, Nat.mul_add_div B_pos, Nat.div_eq_of_lt hw, Nat.add_zero]
theorem mul_lt_pow (x y : Nat) : x * y < B ^ (nw x + nw y) := by
  rw [Nat.pow_add]
  have h1 := lt_pow_nw x
  have h2 := lt_pow_nw y
  exact Nat.lt_of_le_of_lt (Nat.mul_le_mul_right y (Nat.le_of_lt h1)) (Nat.mul_lt_mul_of_pos_left h2 (Bp_pos _))
theorem nw_mul_le (x y : Nat) : nw (x * y) ≤ nw x + nw y := (nw_le_iff _ _).2 (mul_lt_pow x y)
end Go.Proofs.YtlmdpamehhcblaaGreatDoorV
