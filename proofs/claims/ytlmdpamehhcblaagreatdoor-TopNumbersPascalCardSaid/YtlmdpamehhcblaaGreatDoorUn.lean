import Derived.Test.YtlmdpamehhcblaaGreatDoorHalf
import Derived.Test.YtlmdpamehhcblaaGreatDoorAtoi
/- Plain laws: lengths in units. No program in sight. -/
namespace Go.Proofs.YtlmdpamehhcblaaGreatDoorD
open Go.Lib

def uwords : List (List UInt8) := [[117, 109], [109, 109], [99, 109], [105, 110], [116, 104, 111, 117]]
def uword (u : Nat) : List UInt8 := uwords.getD u []
def uvals : List Rat := [1, 1000, 10000, 25400, mkRat 127 5]
def uval (u : Nat) : Rat := uvals.getD u 1
def uplaces : List Int := [0, 3, 4, -1, -1]
def uidx (w : List UInt8) : Option Nat :=
  if w = uword 0 then some 0 else if w = uword 1 then some 1 else if w = uword 2 then some 2 else if w = uword 3 then some 3 else if w = uword 4 then some 4 else none
theorem uidx_lt {w : List UInt8} {u : Nat} (h : uidx w = some u) : u < 5 ∧ w = uword u := by
  unfold uidx at h
  repeat' split at h
  all_goals (first | (cases h; done) | (injection h with h; subst h; exact ⟨by decide, by assumption⟩))
theorem uidx_word {u : Nat} (h : u < 5) : uidx (uword u) = some u := by
  match u, h with
  | 0, _ => rfl
  | 1, _ => rfl
  | 2, _ => rfl
  | 3, _ => rfl
  | 4, _ => rfl
/-- One or more digits. -/
def digs (s : List UInt8) : Bool := !s.isEmpty && s.all isDig
/-- A number without a sign: numerator and denominator, or the number of the error. -/
def unum (s : List UInt8) : Except Int (Nat × Nat) :=
  if (cutc 46 s).2.2 then
    if !natural (cutc 46 s).1 || !digs (cutc 46 s).2.1 then .error 4
    else if 6 < (cutc 46 s).1.length ∨ 6 < (cutc 46 s).2.1.length then .error 11
    else .ok (val (cutc 46 s).1 * 10 ^ (cutc 46 s).2.1.length + val (cutc 46 s).2.1, 10 ^ (cutc 46 s).2.1.length)
  else
    let b := if (cutc 47 s).2.2 then (cutc 47 s).2.1 else [49]
    if !natural (cutc 47 s).1 || !natural b then .error 4
    else if 6 < (cutc 47 s).1.length ∨ 6 < b.length then .error 11
    else if b = [48] then .error 10
    else .ok (val (cutc 47 s).1, val b)
theorem natural_all {l : List UInt8} (h : natural l = true) : l ≠ [] ∧ l.all isDig = true := by
  unfold natural at h
  simp only [Bool.and_eq_true, Bool.not_eq_true', List.isEmpty_eq_false_iff] at h
  exact ⟨h.1.1, h.1.2⟩
theorem digs_all {l : List UInt8} (h : digs l = true) : l ≠ [] ∧ l.all isDig = true := by
  unfold digs at h
  simp only [Bool.and_eq_true, Bool.not_eq_true', List.isEmpty_eq_false_iff] at h
  exact h
theorem val6 {l : List UInt8} (h : l.all isDig = true) (h6 : l.length ≤ 6) : val l < 1000000 := by
  have := val_lt h
  have h2 := Nat.pow_le_pow_right (n := 10) (by decide) h6
  exact Nat.lt_of_lt_of_le this h2
theorem pow6 {k : Nat} (h : k ≤ 6) : 10 ^ k ≤ 1000000 := Nat.pow_le_pow_right (n := 10) (by decide) h
theorem natural_zero {l : List UInt8} (h : natural l = true) (h0 : l ≠ [48]) : val l ≠ 0 := by
  intro e
  have := decDigits_val h
  rw [e, decDigits_small (by decide)] at this
  exact h0 this.symm
theorem unum_bd {s : List UInt8} {n d : Nat} (h : unum s = .ok (n, d)) : n < 10 ^ 13 ∧ d ≤ 1000000 ∧ d ≠ 0 := by
  unfold unum at h
  split at h
  · split at h
    · cases h
    · rename_i hn
      split at h
      · cases h
      · rename_i hl
        injection h with h; injection h with h1 h2
        simp only [Bool.or_eq_true, Bool.not_eq_true', not_or, Bool.not_eq_false] at hn
        have a := val6 (natural_all hn.1).2 (by omega)
        have b := val6 (digs_all hn.2).2 (by omega)
        have p := pow6 (show (cutc 46 s).2.1.length ≤ 6 by omega)
        have q : 0 < 10 ^ (cutc 46 s).2.1.length := Nat.pow_pos (by decide)
        have m := Nat.mul_le_mul (Nat.le_of_lt a) p
        subst h1; subst h2
        refine ⟨?_, p, by omega⟩
        have : (10 : Nat) ^ 13 = 10000000000000 := by decide
        omega
  · generalize (if (cutc 47 s).2.2 = true then (cutc 47 s).2.1 else [49]) = b at h
    simp only [] at h
    split at h
    · cases h
    · rename_i hn
      split at h
      · cases h
      · rename_i hl
        split at h
        · cases h
        · rename_i hz
          injection h with h; injection h with h1 h2
          simp only [Bool.or_eq_true, Bool.not_eq_true', not_or, Bool.not_eq_false] at hn
          have a := val6 (natural_all hn.1).2 (by omega)
          have b := val6 (natural_all hn.2).2 (by omega)
          have c := natural_zero hn.2 hz
          subst h1; subst h2
          have : (10 : Nat) ^ 13 = 10000000000000 := by decide
          exact ⟨by omega, by omega, c⟩
/-- Beyond the greatest length. -/
def ubeyond (x : Rat) : Bool := decide ((100000 : Rat) < x) || decide (x < (-100000 : Rat))
/-- What stands ahead of the blank, without the sign. -/
def usize (f : List UInt8) : List UInt8 := trimPrefix f [45]
def usign (m : Bool) (n : Nat) : Int := if m then -(n : Int) else n
/-- The value of the text of a length, or the number of the error. -/
def uexact (s : List UInt8) : Except Int Rat :=
  if 40 < s.length then .error 17
  else match unum (usize (cutc 32 s).1) with
    | .error e => .error e
    | .ok (n, d) => match (if (cutc 32 s).2.2 then uidx (cutc 32 s).2.1 else none) with
      | none => .error 20
      | some u => if ubeyond (mkRat (usign (hasPrefix (cutc 32 s).1 [45]) n) d * uval u) then .error 2 else .ok (mkRat (usign (hasPrefix (cutc 32 s).1 [45]) n) d * uval u)
/-- A value as an int. -/
def uint (x : Rat) : Except Int Int := if x.den = 1 then .ok x.num else .error 14
def uparse (s : List UInt8) : Except Int Int := match uexact s with
  | .error e => .error e
  | .ok x => uint x
theorem mkRat_parts (n : Int) (d : Nat) (hd : d ≠ 0) : (mkRat n d).num.natAbs ≤ n.natAbs ∧ (mkRat n d).den ≤ d := by
  rw [mkRat_num n d hd, mkRat_den n d hd]
  constructor
  · rw [Int.natAbs_ediv_of_dvd (Int.gcd_dvd_left ..)]
    exact Nat.div_le_self _ _
  · exact Nat.div_le_self _ _
theorem mul_parts (a b : Rat) : (a * b).num.natAbs ≤ a.num.natAbs * b.num.natAbs ∧ (a * b).den ≤ a.den * b.den := by
  rw [mul_mk]
  have := mkRat_parts (a.num * b.num) (a.den * b.den) (Nat.mul_ne_zero a.den_nz b.den_nz)
  rw [Int.natAbs_mul] at this
  exact this
theorem add_parts (a b : Rat) : (a + b).num.natAbs ≤ a.num.natAbs * b.den + b.num.natAbs * a.den ∧ (a + b).den ≤ a.den * b.den := by
  rw [add_mk]
  have h := mkRat_parts (a.num * b.den + b.num * a.den) (a.den * b.den) (Nat.mul_ne_zero a.den_nz b.den_nz)
  refine ⟨Nat.le_trans h.1 (Nat.le_trans (Int.natAbs_add_le _ _) ?_), h.2⟩
  rw [Int.natAbs_mul, Int.natAbs_mul]
  exact Nat.le_refl _
theorem uval_parts (u : Nat) : (uval u).num.natAbs ≤ 25400 ∧ (uval u).den ≤ 5 ∧ 0 < (uval u).num := by
  match u with
  | 0 => decide +kernel
  | 1 => decide +kernel
  | 2 => decide +kernel
  | 3 => decide +kernel
  | 4 => decide +kernel
  | u + 5 =>
    have : uval (u + 5) = 1 := rfl
    rw [this]; decide +kernel
theorem usign_abs (m : Bool) (n : Nat) : (usign m n).natAbs = n := by unfold usign; cases m <;> simp
/-- The parts of a length's value. -/
theorem uexact_parts {s : List UInt8} {x : Rat} (h : uexact s = .ok x) : x.num.natAbs < 10 ^ 18 ∧ x.den < 10 ^ 7 ∧ ubeyond x = false := by
  unfold uexact at h
  split at h
  · cases h
  · split at h
    · cases h
    · rename_i n d hn
      split at h
      · cases h
      · rename_i u hu
        split at h
        · cases h
        · rename_i hb
          injection h with h
          obtain ⟨b1, b2, b3⟩ := unum_bd hn
          have p := mkRat_parts (usign (hasPrefix (cutc 32 s).1 [45]) n) d b3
          rw [usign_abs] at p
          have q := mul_parts (mkRat (usign (hasPrefix (cutc 32 s).1 [45]) n) d) (uval u)
          rw [h] at q hb
          obtain ⟨v1, v2, _⟩ := uval_parts u
          refine ⟨?_, ?_, by simpa using hb⟩
          · have m := Nat.mul_le_mul (Nat.le_trans p.1 (Nat.le_of_lt b1)) v1
            have e1 : (10 : Nat) ^ 13 = 10000000000000 := by decide
            have e2 : (10 : Nat) ^ 18 = 1000000000000000000 := by decide
            rw [e1] at m
            omega
          · have m := Nat.mul_le_mul (Nat.le_trans p.2 b2) v2
            have e2 : (10 : Nat) ^ 7 = 10000000 := by decide
            omega
/-- A stroke is no digit. -/
theorem parseUint10_bad : ∀ (l : List UInt8) (acc : Nat) (m : List UInt8), l.all isDig = true → (acc + 1) * 10 ^ l.length ≤ 1000000000000000000 → parseUint10 acc (l ++ 47 :: m) = NumEnd.syntax
  | [], acc, m, _, _ => by
    show parseUint10 acc (47 :: m) = NumEnd.syntax
    unfold parseUint10
    rw [if_neg (by decide)]
  | c :: r, acc, m, h, hb => by
    simp only [List.all_cons, Bool.and_eq_true] at h
    have hc := (isDig_iff c).1 h.1
    rw [List.length_cons, Nat.pow_succ] at hb
    have hp : 1 ≤ 10 ^ r.length := Nat.one_le_pow _ _ (by decide)
    have h1 : (acc + 1) * 10 * 10 ^ r.length ≤ 1000000000000000000 := by rw [Nat.mul_assoc, Nat.mul_comm 10]; exact hb
    have h2 : (acc + 1) * 10 * 1 ≤ (acc + 1) * 10 * 10 ^ r.length := Nat.mul_le_mul_left _ hp
    rw [List.cons_append]
    unfold parseUint10
    rw [if_pos hc, if_neg (by omega), if_neg (by omega)]
    refine parseUint10_bad r _ m h.2 (Nat.le_trans (Nat.mul_le_mul_right _ ?_) h1)
    omega
theorem atoi_stroke {n : Int} (h : n.natAbs < 1000000000000000000) (m : List UInt8) : atoiAll (itoa n ++ 47 :: m) = NumEnd.syntax := by
  have hl : (decDigits n.natAbs).length ≤ 18 := by
    rw [decDigits_len]; exact (nDigits_le_iff _ _ (by decide)).2 (by simpa using h)
  have hp : (0 + 1) * 10 ^ (decDigits n.natAbs).length ≤ 1000000000000000000 := by
    have := Nat.pow_le_pow_right (n := 10) (by decide) hl
    simpa using this
  have hb := parseUint10_bad (decDigits n.natAbs) 0 m (decDigits_all _) hp
  by_cases hn : n < 0
  · unfold itoa
    rw [if_pos hn, List.cons_append]
    unfold atoiAll
    simp only []
    rw [if_pos (by right; decide)]
    unfold parseMag
    rw [if_neg (by simp), hb]
  · unfold itoa
    rw [if_neg hn, show n.toNat = n.natAbs by omega]
    have hne := decDigits_ne n.natAbs
    have hall := decDigits_all n.natAbs
    cases hd : decDigits n.natAbs with
    | nil => exact absurd hd hne
    | cons c r =>
      rw [hd] at hall hb
      have hc : 48 ≤ c.toNat ∧ c.toNat ≤ 57 := by
        simp only [List.all_cons, Bool.and_eq_true] at hall; exact (isDig_iff c).1 hall.1
      rw [List.cons_append] at hb ⊢
      unfold atoiAll
      simp only []
      rw [if_neg (by omega)]
      unfold parseMag
      rw [if_neg (by simp), hb]
theorem atoi_rtext {x : Rat} (h : x.num.natAbs < 1000000000000000000) : atoiAll (rtext x) = match uint x with
    | .ok n => .ok n
    | .error _ => NumEnd.syntax := by
  unfold rtext uint
  by_cases hd : x.den = 1
  · rw [if_pos hd, if_pos hd]
    exact atoi_itoa (by omega) (by omega)
  · rw [if_neg hd, if_neg hd]
    exact atoi_stroke h _
theorem parseUint10_no : ∀ (l : List UInt8) (acc : Nat) (m : List UInt8) (u : Nat), parseUint10 acc (l ++ 47 :: m) ≠ .ok u
  | [], acc, m, u => by
    show parseUint10 acc (47 :: m) ≠ _
    unfold parseUint10
    rw [if_neg (by decide)]
    exact fun h => by cases h
  | c :: r, acc, m, u => by
    rw [List.cons_append]
    unfold parseUint10
    split
    · split
      · exact fun h => by cases h
      · split
        · exact fun h => by cases h
        · exact parseUint10_no r _ m u
    · exact fun h => by cases h
theorem atoi_no (l m : List UInt8) (v : Int) : atoiAll (l ++ 47 :: m) ≠ .ok v := by
  cases l with
  | nil =>
    show atoiAll (47 :: m) ≠ _
    unfold atoiAll
    simp only []
    rw [if_neg (by decide)]
    unfold parseMag
    rw [if_neg (by simp)]
    have := parseUint10_no [] 0 m
    cases hq : parseUint10 0 (47 :: m)
    · rename_i u; exact absurd hq (this u)
    · exact fun h => by cases h
    · exact fun h => by cases h
  | cons c r =>
    rw [List.cons_append]
    unfold atoiAll
    simp only []
    split
    · rename_i h; exact fun h => by cases h
    · rename_i h; exact fun h => by cases h
    · rename_i u hu
      exfalso
      have key : ∀ L : List UInt8, (∀ u, parseUint10 0 L ≠ .ok u) → parseMag L ≠ .ok u := by
        intro L hL hh
        unfold parseMag at hh
        split at hh
        · cases hh
        · exact hL u hh
      refine key _ (fun u => ?_) hu
      split
      · exact parseUint10_no r 0 m u
      · exact parseUint10_no (c :: r) 0 m u
def ustep (r : Except Int Rat) (s : List UInt8) : Except Int Rat := match r with
  | .error e => .error e
  | .ok q => match uexact s with
    | .error e => .error e
    | .ok x => .ok (q + x)
/-- The sum of lengths, or the number of the first error. -/
def usumR (l : List (List UInt8)) : Except Int Rat := l.foldl ustep (.ok 0)
def usum (l : List (List UInt8)) : Except Int Int :=
  if 256 < l.length then .error 5 else match usumR l with
  | .error e => .error e
  | .ok q => if ubeyond q then .error 2 else uint q
theorem ustep_err (e : Int) (l : List (List UInt8)) : l.foldl ustep (.error e) = .error e := by
  induction l with
  | nil => rfl
  | cons s l ih => exact ih
theorem usumR_take (l : List (List UInt8)) (j : Nat) (h : j < l.length) : usumR (l.take (j + 1)) = ustep (usumR (l.take j)) (l.getD j []) := by
  unfold usumR
  rw [List.take_add_one, List.getElem?_eq_getElem h, Option.toList_some, List.foldl_append, List.getD_eq_getElem?_getD, List.getElem?_eq_getElem h]
  rfl
theorem usumR_stop (l : List (List UInt8)) (j : Nat) (e : Int) (h : usumR (l.take j) = .error e) : usumR l = .error e := by
  unfold usumR at *
  have := List.take_append_drop j l
  rw [← this, List.foldl_append, h, ustep_err]
theorem beyond_int {x : Rat} (h : ubeyond x = false) (hd : x.den = 1) : x.num.natAbs ≤ 100000 := by
  unfold ubeyond at h
  simp only [Bool.or_eq_false_iff, decide_eq_false_iff_not] at h
  have h1 := h.1
  have h2 := h.2
  have e1 : (100000 : Rat) = ((100000 : Int) : Rat) := rfl
  have e2 : (-100000 : Rat) = ((-100000 : Int) : Rat) := rfl
  rw [e1, Rat.lt_iff] at h1
  rw [e2, Rat.lt_iff] at h2
  rw [hd] at h1 h2
  have a1 : ((100000 : Int) : Rat).num = 100000 := rfl
  have a2 : ((100000 : Int) : Rat).den = 1 := rfl
  have a3 : ((-100000 : Int) : Rat).num = -100000 := rfl
  have a4 : ((-100000 : Int) : Rat).den = 1 := rfl
  rw [a1, a2] at h1
  rw [a3, a4] at h2
  omega
end Go.Proofs.YtlmdpamehhcblaaGreatDoorD
