import Derived.Test.YtlmdpamehhcblaaGreatDoorUn
/- Plain laws: the parts of sums of lengths stay small. No program in sight. -/
namespace Go.Proofs.YtlmdpamehhcblaaGreatDoorD
open Go.Lib

theorem usum_parts : ∀ (l : List (List UInt8)) (q0 q : Rat) (n : Nat), q0.den ≤ 10 ^ (7 * n) → q0.num.natAbs ≤ n * 10 ^ (7 * n + 11) → l.foldl ustep (.ok q0) = .ok q →
    q.den ≤ 10 ^ (7 * (n + l.length)) ∧ q.num.natAbs ≤ (n + l.length) * 10 ^ (7 * (n + l.length) + 11)
  | [], q0, q, n, hd, hn, h => by
    injection h with h
    subst h
    exact ⟨hd, hn⟩
  | s :: l, q0, q, n, hd, hn, h => by
    rw [List.foldl_cons] at h
    have e : ustep (.ok q0) s = match uexact s with
      | .error e => .error e
      | .ok x => .ok (q0 + x) := rfl
    rw [e] at h
    cases hx : uexact s with
    | error c => rw [hx] at h; rw [ustep_err] at h; cases h
    | ok x =>
      rw [hx] at h
      obtain ⟨p1, p2, _⟩ := uexact_parts hx
      obtain ⟨a1, a2⟩ := add_parts q0 x
      have k := usum_parts l (q0 + x) q (n + 1) (Nat.le_trans a2 ?_) (Nat.le_trans a1 ?_) h
      · rw [List.length_cons, show n + (l.length + 1) = n + 1 + l.length by omega]; exact k
      · have := Nat.mul_le_mul hd (Nat.le_of_lt p2)
        rw [← Nat.pow_add] at this
        rw [show 7 * (n + 1) = 7 * n + 7 by omega]
        exact this
      · have m1 := Nat.mul_le_mul hn (Nat.le_of_lt p2)
        have m2 := Nat.mul_le_mul (Nat.le_of_lt p1) hd
        rw [Nat.mul_assoc, ← Nat.pow_add] at m1
        rw [← Nat.pow_add] at m2
        rw [show 7 * (n + 1) + 11 = 7 * n + 11 + 7 by omega, Nat.add_mul, Nat.one_mul]
        rw [show 18 + 7 * n = 7 * n + 11 + 7 by omega] at m2
        exact Nat.add_le_add m1 m2
theorem usum_Q {l : List (List UInt8)} (hl : l.length ≤ 60) (j : Nat) (q : Rat) (h : usumR (l.take j) = .ok q) : Q q := by
  have k := usum_parts (l.take j) 0 q 0 (by decide) (by decide) h
  rw [Nat.zero_add] at k
  have hm : (l.take j).length ≤ 60 := by rw [List.length_take]; omega
  generalize (l.take j).length = m at *
  have h1 : 10 ^ (7 * m) < 10 ^ (7 * m + 1) := Nat.pow_lt_pow_right (by decide) (by omega)
  have e2 : (10 : Nat) ^ 2 = 100 := by decide
  have h2 : m * 10 ^ (7 * m + 11) ≤ 10 ^ 2 * 10 ^ (7 * m + 11) := Nat.mul_le_mul_right _ (by omega)
  rw [← Nat.pow_add] at h2
  have h3 : 10 ^ (2 + (7 * m + 11)) < 10 ^ (7 * m + 14) := Nat.pow_lt_pow_right (by decide) (by omega)
  refine Q.of (k := 7 * m + 14) (by omega) (by omega) (Nat.lt_of_le_of_lt k.1 (Nat.pow_lt_pow_right (by decide) (by omega)))
end Go.Proofs.YtlmdpamehhcblaaGreatDoorD
