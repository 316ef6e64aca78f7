import Derived.Test.YtlmdpamehhcblaaGreatDoorDec
import Derived.Test.YtlmdpamehhcblaaGreatDoorWide
import Derived.Lib.AtoiAll
import Derived.Lib.Bytealg
/- Plain laws: Atoi of digits; the words of a numeral, nine digits at a time. No program in sight. -/
namespace Go.Proofs.YtlmdpamehhcblaaGreatDoorD
open Go.Lib

theorem parseUint10_eq : ∀ (l : List UInt8) (acc : Nat), l.all isDig = true → (acc + 1) * 10 ^ l.length ≤ 1000000000000000000 → parseUint10 acc l = .ok (valF acc l)
  | [], acc, _, _ => by rw [valF_nil]; rfl
  | c :: r, acc, h, hb => by
    simp only [List.all_cons, Bool.and_eq_true] at h
    have hc := (isDig_iff c).1 h.1
    rw [List.length_cons, Nat.pow_succ] at hb
    have hp : 1 ≤ 10 ^ r.length := Nat.one_le_pow _ _ (by decide)
    have h1 : (acc + 1) * 10 * 10 ^ r.length ≤ 1000000000000000000 := by rw [Nat.mul_assoc, Nat.mul_comm 10]; exact hb
    have h2 : (acc + 1) * 10 * 1 ≤ (acc + 1) * 10 * 10 ^ r.length := Nat.mul_le_mul_left _ hp
    unfold parseUint10
    rw [if_pos hc, if_neg (by omega), if_neg (by omega), valF_cons, Nat.mul_comm 10 acc]
    refine parseUint10_eq r _ h.2 (Nat.le_trans (Nat.mul_le_mul_right _ ?_) h1)
    omega
theorem atoi_digits {l : List UInt8} (h0 : l ≠ []) (h : l.all isDig = true) (hb : l.length ≤ 18) : atoiAll l = .ok (val l : Int) := by
  cases l with
  | nil => exact absurd rfl h0
  | cons c r =>
    have hc : 48 ≤ c.toNat ∧ c.toNat ≤ 57 := by
      simp only [List.all_cons, Bool.and_eq_true] at h; exact (isDig_iff c).1 h.1
    have hp : (0 + 1) * 10 ^ (c :: r).length ≤ 1000000000000000000 := by
      have := Nat.pow_le_pow_right (n := 10) (by decide) hb
      simpa using this
    have hv : val (c :: r) < 1000000000000000000 := by
      have := val_lt h
      omega
    have e := parseUint10_eq (c :: r) 0 h hp
    unfold atoiAll
    simp only []
    rw [if_neg (by omega)]
    unfold parseMag
    rw [if_neg h0, e]
    show (if ¬ c.toNat = 45 ∧ 9223372036854775808 ≤ val (c :: r) then NumEnd.range else if c.toNat = 45 ∧ 9223372036854775808 < val (c :: r) then NumEnd.range else .ok (if c.toNat = 45 then -(val (c :: r) : Int) else (val (c :: r) : Int))) = .ok (val (c :: r) : Int)
    rw [if_neg (by omega), if_neg (by omega), if_neg (by omega)]
theorem atoi_minus_digits {l : List UInt8} (h0 : l ≠ []) (h : l.all isDig = true) (hb : l.length ≤ 18) : atoiAll (45 :: l) = .ok (-(val l : Int)) := by
  have hp : (0 + 1) * 10 ^ l.length ≤ 1000000000000000000 := by
    have := Nat.pow_le_pow_right (n := 10) (by decide) hb
    simpa using this
  have hv : val l < 1000000000000000000 := by
    have := val_lt h
    omega
  have e := parseUint10_eq l 0 h hp
  unfold atoiAll
  simp only []
  rw [if_pos (by right; decide)]
  unfold parseMag
  rw [if_neg h0, e]
  show (if ¬ (45 : UInt8).toNat = 45 ∧ 9223372036854775808 ≤ val l then NumEnd.range else if (45 : UInt8).toNat = 45 ∧ 9223372036854775808 < val l then NumEnd.range else .ok (if (45 : UInt8).toNat = 45 then -(val l : Int) else (val l : Int))) = .ok (-(val l : Int))
  have h45 : (45 : UInt8).toNat = 45 := by decide
  rw [if_neg (by omega), if_neg (by omega), if_pos h45]
theorem atoi_itoa {n : Int} (h0 : -1000000000000000000 < n) (h1 : n < 1000000000000000000) : atoiAll (itoa n) = .ok n := by
  have hl : (decDigits n.natAbs).length ≤ 18 := by
    rw [decDigits_len]; exact (nDigits_le_iff _ _ (by decide)).2 (by simp; omega)
  by_cases hn : n < 0
  · unfold itoa; rw [if_pos hn, atoi_minus_digits (decDigits_ne _) (decDigits_all _) hl, val_decDigits]; congr 1; omega
  · unfold itoa; rw [if_neg hn, show n.toNat = n.natAbs by omega, atoi_digits (decDigits_ne _) (decDigits_all _) hl, val_decDigits]; congr 1; omega

/-! ### Nine digits at a time -/
open YtlmdpamehhcblaaGreatDoorV (B wd) in
/-- D: the digits of v; what stands ahead of the last 9 * i is the number without its last i words. -/
theorem val_take (D : List UInt8) (h : D.all isDig = true) (i : Nat) : val (D.take (D.length - 9 * i)) = val D / B ^ i := by
  by_cases hi : 9 * i ≤ D.length
  · have e := val_append (D.take (D.length - 9 * i)) (D.drop (D.length - 9 * i))
    rw [List.take_append_drop] at e
    have hl : (D.drop (D.length - 9 * i)).length = 9 * i := by rw [List.length_drop]; omega
    have hd : (D.drop (D.length - 9 * i)).all isDig = true := by
      rw [List.all_eq_true] at *; intro x hx; exact h x (List.mem_of_mem_drop hx)
    have hlt := val_lt hd
    rw [hl] at e hlt
    have hB : B ^ i = 10 ^ (9 * i) := by rw [Nat.pow_mul]; rfl
    rw [hB, e, Nat.mul_comm (val (List.take (D.length - 9 * i) D)), Nat.mul_add_div (Nat.pow_pos (by decide)), Nat.div_eq_of_lt hlt, Nat.add_zero]
  · rw [show D.length - 9 * i = 0 by omega, List.take_zero, val_nil]
    have hlt := val_lt h
    have hB : B ^ i = 10 ^ (9 * i) := by rw [Nat.pow_mul]; rfl
    have := Nat.pow_le_pow_right (n := 10) (by decide) (show D.length ≤ 9 * i by omega)
    rw [hB, Nat.div_eq_of_lt (by omega)]
open YtlmdpamehhcblaaGreatDoorV (B wd) in
theorem val_chunk (D : List UInt8) (h : D.all isDig = true) (i : Nat) : val ((D.take (D.length - 9 * i)).drop (D.length - 9 * i - 9)) = wd (val D) i := by
  have e := val_append ((D.take (D.length - 9 * i)).take (D.length - 9 * i - 9)) ((D.take (D.length - 9 * i)).drop (D.length - 9 * i - 9))
  rw [List.take_append_drop, val_take D h i, List.take_take, Nat.min_eq_left (by omega), show D.length - 9 * i - 9 = D.length - 9 * (i + 1) by omega, val_take D h (i + 1), YtlmdpamehhcblaaGreatDoorV.div_succ] at e
  rw [show D.length - 9 * i - 9 = D.length - 9 * (i + 1) by omega]
  generalize hC : (D.take (D.length - 9 * i)).drop (D.length - 9 * (i + 1)) = C at *
  have hl : C.length = min 9 (D.length - 9 * i) := by rw [← hC, List.length_drop, List.length_take]; omega
  by_cases h9 : 9 ≤ D.length - 9 * i
  · rw [hl, Nat.min_eq_left h9] at e
    have : B = 10 ^ 9 := rfl
    rw [this] at e
    omega
  · have h0 : val D / B ^ (i + 1) = 0 := by
      rw [← val_take D h (i + 1), show D.length - 9 * (i + 1) = 0 by omega, List.take_zero, val_nil]
    rw [h0] at e; omega
/-! ### Order -/
theorem compare_val : ∀ (l m : List UInt8), l.all isDig = true → m.all isDig = true → l.length = m.length → compareBytes l m = ((val l : Int) - val m).sign
  | [], [], _, _, _ => by rw [val_nil]; rfl
  | [], _ :: _, _, _, h => by simp at h
  | _ :: _, [], _, _, h => by simp at h
  | c :: l, d :: m, hl, hm, h => by
    simp only [List.all_cons, Bool.and_eq_true] at hl hm
    have hlen : l.length = m.length := by simpa using h
    have ih := compare_val l m hl.2 hm.2 hlen
    have a := val_lt hl.2
    have b := val_lt hm.2
    have hc := (isDig_iff c).1 hl.1
    have hd := (isDig_iff d).1 hm.1
    rw [val_cons, val_cons, hlen]
    rw [hlen] at a
    unfold compareBytes
    by_cases h1 : c < d
    · rw [if_pos h1]
      have h2 : c.toNat < d.toNat := UInt8.lt_iff_toNat_lt.1 h1
      have h3 : (c.toNat - 48 + 1) * 10 ^ m.length ≤ (d.toNat - 48) * 10 ^ m.length := Nat.mul_le_mul_right _ (by omega)
      rw [Nat.add_mul, Nat.one_mul] at h3
      rw [Int.sign_eq_neg_one_of_neg (by omega)]
    · rw [if_neg h1]
      by_cases h2 : d < c
      · rw [if_pos h2]
        have h4 : d.toNat < c.toNat := UInt8.lt_iff_toNat_lt.1 h2
        have h3 : (d.toNat - 48 + 1) * 10 ^ m.length ≤ (c.toNat - 48) * 10 ^ m.length := Nat.mul_le_mul_right _ (by omega)
        rw [Nat.add_mul, Nat.one_mul] at h3
        rw [Int.sign_eq_one_of_pos (by omega)]
      · rw [if_neg h2, ih]
        have e : c.toNat = d.toNat := by
          have x1 : ¬ c.toNat < d.toNat := fun x => h1 (UInt8.lt_iff_toNat_lt.2 x)
          have x2 : ¬ d.toNat < c.toNat := fun x => h2 (UInt8.lt_iff_toNat_lt.2 x)
          omega
        rw [e]
        congr 1
        omega
theorem lt_of_digits {u v : Nat} (h : (decDigits u).length < (decDigits v).length) : u < v := by
  rw [decDigits_len, decDigits_len] at h
  apply Nat.lt_of_not_le
  intro hl
  have := nDigits_mono hl
  omega
theorem compare_digits (u v : Nat) (h : (decDigits u).length = (decDigits v).length) : compareBytes (decDigits u) (decDigits v) = ((u : Int) - v).sign := by
  rw [compare_val _ _ (decDigits_all u) (decDigits_all v) h, val_decDigits, val_decDigits]
end Go.Proofs.YtlmdpamehhcblaaGreatDoorD
