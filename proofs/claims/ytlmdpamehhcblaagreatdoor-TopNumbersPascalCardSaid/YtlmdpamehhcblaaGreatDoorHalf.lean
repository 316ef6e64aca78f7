import Derived.Test.YtlmdpamehhcblaaGreatDoorCut
/- Plain laws: rational numbers with parts so small that the parts of sums and products are within the limit. No program in sight. -/
namespace Go.Proofs.YtlmdpamehhcblaaGreatDoorD
open Go.Lib

def halfE : Nat := 500
theorem halfE_eq : halfE = 500 := rfl
def Half : Nat := 10 ^ halfE
theorem le_half {k : Nat} (h : k ≤ 500) : 10 ^ k ≤ Half := Nat.pow_le_pow_right (by decide) (by rw [halfE_eq]; exact h)
theorem half_mul2 {a b c d : Nat} (ha : a < Half) (hb : b < Half) (hc : c < Half) (hd : d < Half) : a * b + c * d < Lim := by
  have h1 : a * b ≤ Half * Half := Nat.mul_le_mul (Nat.le_of_lt ha) (Nat.le_of_lt hb)
  have h2 : c * d ≤ Half * Half := Nat.mul_le_mul (Nat.le_of_lt hc) (Nat.le_of_lt hd)
  have key : ∀ k, halfE = k → Half * Half < Lim ∧ Half * Half * 10 ≤ Lim := by
    intro k hk
    have hle : k + k + 1 ≤ 1024 := by rw [← hk, halfE_eq]; omega
    have e : Half = 10 ^ k := by unfold Half; rw [hk]
    have h5 := lim_le hle
    have h6 : 0 < 10 ^ k := Nat.pow_pos (by decide)
    rw [Nat.pow_succ, Nat.pow_add, ← e] at h5
    rw [← e] at h6
    have : 0 < Half * Half := Nat.mul_pos h6 h6
    omega
  have k1 := (key _ rfl).1
  have k2 := (key _ rfl).2
  omega
theorem half_mul {a b : Nat} (ha : a < Half) (hb : b < Half) : a * b < Lim := by
  have := half_mul2 ha hb ha hb; omega
theorem half_lim : Half ≤ Lim := lim_le (by rw [halfE_eq]; omega)
theorem lt_half_lim {a : Nat} (h : a < Half) : a < Lim := Nat.lt_of_lt_of_le h half_lim
/-- A rational number with small parts. -/
structure Q (q : Rat) : Prop where
  n : q.num.natAbs < Half
  d : q.den < Half
theorem Q.of {q : Rat} {k : Nat} (hk : k ≤ 500) (h : q.num.natAbs < 10 ^ k) (hd : q.den < 10 ^ k) : Q q :=
  ⟨Nat.lt_of_lt_of_le h (le_half hk), Nat.lt_of_lt_of_le hd (le_half hk)⟩
theorem Q.ln {q : Rat} (h : Q q) : q.num.natAbs < Lim := lt_half_lim h.n
theorem Q.ld {q : Rat} (h : Q q) : q.den < Lim := lt_half_lim h.d
theorem one_lim : 1 < Lim := by have := lim_big; omega
theorem abs_mul (a b : Int) : (a * b).natAbs = a.natAbs * b.natAbs := Int.natAbs_mul a b
theorem abs_add (a b : Int) : (a + b).natAbs ≤ a.natAbs + b.natAbs := Int.natAbs_add_le a b
theorem mkRat_self (q : Rat) : mkRat q.num q.den = q := Rat.mkRat_self q
/-- Which of two is greater, by their parts. -/
theorem cmp_eq (a b : Rat) : (a.num * b.den - b.num * a.den).sign = if a < b then -1 else if a = b then 0 else 1 := by
  have h1 : a < b ↔ a.num * b.den < b.num * a.den := Rat.lt_iff a b
  have h2 : a = b ↔ a.num * b.den = b.num * a.den := by
    constructor
    · rintro rfl; rfl
    · intro h
      have hle : a ≤ b := (Rat.le_iff a b).2 (Int.le_of_eq h)
      have hge : b ≤ a := (Rat.le_iff b a).2 (Int.le_of_eq h.symm)
      exact Rat.le_antisymm hle hge
  by_cases c1 : a < b
  · rw [if_pos c1]
    exact Int.sign_eq_neg_one_of_neg (by have := h1.1 c1; omega)
  · rw [if_neg c1]
    by_cases c2 : a = b
    · rw [if_pos c2, Int.sign_eq_zero_iff_zero]; have := h2.1 c2; omega
    · rw [if_neg c2]
      exact Int.sign_eq_one_of_pos (by
        have n1 : ¬ a.num * b.den < b.num * a.den := fun x => c1 (h1.2 x)
        have n2 : ¬ a.num * b.den = b.num * a.den := fun x => c2 (h2.2 x)
        omega)
end Go.Proofs.YtlmdpamehhcblaaGreatDoorD
