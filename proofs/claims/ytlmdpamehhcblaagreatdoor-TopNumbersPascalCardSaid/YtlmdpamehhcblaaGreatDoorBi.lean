import Derived.Test.YtlmdpamehhcblaaGreatDoorHalf
/- Plain laws: binomials. No program in sight. -/
namespace Go.Proofs.YtlmdpamehhcblaaGreatDoorD

/-- The triangle of Pascal. -/
def bin : Nat → Nat → Nat
  | _, 0 => 1
  | 0, _ + 1 => 0
  | n + 1, k + 1 => bin n k + bin n (k + 1)
theorem bin_0 (n : Nat) : bin n 0 = 1 := by cases n <;> rfl
theorem bin_s (n k : Nat) : bin (n + 1) (k + 1) = bin n k + bin n (k + 1) := rfl
theorem bin_gt : ∀ (n k : Nat), n < k → bin n k = 0
  | 0, k + 1, _ => rfl
  | n + 1, k + 1, h => by rw [bin_s, bin_gt n k (by omega), bin_gt n (k + 1) (by omega)]
theorem bin_self (n : Nat) : bin n n = 1 := by
  induction n with
  | zero => rfl
  | succ n ih => rw [bin_s, ih, bin_gt n (n + 1) (by omega)]
theorem bin_row : ∀ (n k : Nat), (k + 1) * bin n (k + 1) + k * bin n k = n * bin n k
  | 0, 0 => rfl
  | 0, k + 1 => by simp [bin]
  | n + 1, 0 => by
    have h := bin_row n 0
    rw [bin_0] at h
    rw [bin_s, bin_0, bin_0]; omega
  | n + 1, k + 1 => by
    have h1 := bin_row n k
    have h2 := bin_row n (k + 1)
    rw [bin_s, bin_s]
    generalize bin n k = b0 at *
    generalize bin n (k + 1) = b1 at *
    generalize bin n (k + 1 + 1) = b2 at *
    simp only [Nat.add_mul, Nat.mul_add, Nat.one_mul] at h1 h2 ⊢
    omega
/-- Neighbours in a row. -/
theorem bin_next {n k : Nat} (h : k ≤ n) : bin n (k + 1) * (k + 1) = bin n k * (n - k) := by
  have e := bin_row n k
  have e2 : n * bin n k = (n - k) * bin n k + k * bin n k := by rw [← Nat.add_mul]; congr 1; omega
  rw [Nat.mul_comm, Nat.mul_comm (bin n k)]
  omega
theorem bin_symm : ∀ (s a b : Nat), a + b = s → bin (a + b) a = bin (a + b) b
  | _, 0, b, _ => by rw [Nat.zero_add, bin_0, bin_self]
  | _, a + 1, 0, _ => by rw [Nat.add_zero, bin_0, bin_self]
  | 0, a + 1, b + 1, h => by omega
  | s + 1, a + 1, b + 1, h => by
    have h1 := bin_symm s a (b + 1) (by omega)
    have h2 := bin_symm s (a + 1) b (by omega)
    rw [show a + 1 + (b + 1) = (a + (b + 1)) + 1 by omega, bin_s, bin_s, h1, show a + (b + 1) = a + 1 + b by omega, h2]
    omega
theorem bin_le : ∀ (n k : Nat), bin n k ≤ 2 ^ n
  | 0, 0 => Nat.le_refl _
  | 0, k + 1 => by simp [bin]
  | n + 1, 0 => by rw [bin_0]; exact Nat.one_le_pow _ _ (by decide)
  | n + 1, k + 1 => by
    have h1 := bin_le n k
    have h2 := bin_le n (k + 1)
    rw [bin_s, Nat.pow_succ]; omega
theorem bin_pos {n k : Nat} (h : k ≤ n) : 0 < bin n k := by
  induction n generalizing k with
  | zero => obtain rfl : k = 0 := by omega
            decide
  | succ n ih =>
    cases k with
    | zero => rw [bin_0]; decide
    | succ k => rw [bin_s]; have := ih (k := k) (by omega); omega
/-- The first K of a row. -/
def rsum (n : Nat) : Nat → Nat
  | 0 => 0
  | K + 1 => rsum n K + bin n K
theorem rsum_s (n : Nat) : ∀ K, rsum (n + 1) (K + 1) = rsum n (K + 1) + rsum n K
  | 0 => by show 0 + bin (n + 1) 0 = 0 + bin n 0 + 0; rw [bin_0, bin_0]
  | K + 1 => by
    show rsum (n + 1) (K + 1) + bin (n + 1) (K + 1) = rsum n (K + 1) + bin n (K + 1) + (rsum n K + bin n K)
    rw [rsum_s n K, bin_s]; omega
theorem rsum_all (n : Nat) : rsum n (n + 1) = 2 ^ n := by
  induction n with
  | zero => rfl
  | succ n ih =>
    rw [rsum_s, ih]
    show rsum n (n + 1) + bin n (n + 1) + 2 ^ n = _
    rw [ih, bin_gt n (n + 1) (by omega), Nat.pow_succ]; omega
theorem rsum_mono (n : Nat) {a b : Nat} (h : a ≤ b) : rsum n a ≤ rsum n b := by
  induction b with
  | zero => obtain rfl : a = 0 := by omega
            exact Nat.le_refl _
  | succ b ih =>
    rcases Nat.lt_or_ge b a with h2 | h2
    · obtain rfl : a = b + 1 := by omega
      exact Nat.le_refl _
    · exact Nat.le_trans (ih h2) (Nat.le_add_right _ _)
theorem pow59 {n : Nat} (h : n ≤ 59) : 2 ^ n ≤ 576460752303423488 := Nat.pow_le_pow_right (n := 2) (by decide) h
theorem ratio_next {n k : Nat} (h : k ≤ n) : mkRat ((bin n (k + 1) : Nat) : Int) (bin n k) = mkRat ((n : Int) - k) (k + 1) := by
  have hp := bin_pos h
  rw [Rat.mkRat_eq_iff (by omega) (by omega)]
  have e := bin_next h
  have e2 : ((bin n (k + 1) : Nat) : Int) * ((k + 1 : Nat) : Int) = ((n : Int) - k) * ((bin n k : Nat) : Int) := by
    rw [← Int.natCast_mul, e, Int.natCast_mul, Int.mul_comm]
    congr 1
    omega
  exact e2
end Go.Proofs.YtlmdpamehhcblaaGreatDoorD
