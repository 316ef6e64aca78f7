/- Plain laws on decimal numerals as lists of bytes: value, canonical form, lengths, order. No program in sight. -/
import Derived.Lib.ItoaNum
namespace Go.Proofs.YtlmdpamehhcblaaGreatDoorD
open Go.Lib

/-- The least number that has too many digits for an Int. -/
def limE : Nat := 1024
theorem limE_eq : limE = 1024 := rfl
def Lim : Nat := 10 ^ limE
/-- Is a byte a decimal digit? -/
def isDig (c : UInt8) : Bool := decide (48 ≤ c.toNat) && decide (c.toNat ≤ 57)
/-- The value of digits, behind digits of value a. -/
def valF (a : Nat) (l : List UInt8) : Nat := l.foldl (fun a c => 10 * a + (c.toNat - 48)) a
theorem valF_nil (a : Nat) : valF a [] = a := by unfold valF; rw [List.foldl_nil]
theorem valF_cons (a : Nat) (c : UInt8) (r : List UInt8) : valF a (c :: r) = valF (10 * a + (c.toNat - 48)) r := by unfold valF; rw [List.foldl_cons]
attribute [irreducible] valF
def val (l : List UInt8) : Nat := valF 0 l
/-- Digits without leading zeros, one at least. -/
def natural (l : List UInt8) : Bool := !l.isEmpty && l.all isDig && (l.length == 1 || l.head? != some 48)

theorem isDig_iff (c : UInt8) : isDig c = true ↔ 48 ≤ c.toNat ∧ c.toNat ≤ 57 := by simp [isDig]
theorem dig_toNat {d : Nat} (h : d < 10) : (UInt8.ofNat (48 + d)).toNat = 48 + d := by
  rw [UInt8.toNat_ofNat']; omega
theorem isDig_of {d : Nat} (h : d < 10) : isDig (UInt8.ofNat (48 + d)) = true := by rw [isDig_iff, dig_toNat h]; omega
theorem dig_back {c : UInt8} (h : isDig c = true) : UInt8.ofNat (48 + (c.toNat - 48)) = c := by
  rw [isDig_iff] at h
  have : 48 + (c.toNat - 48) = c.toNat := by omega
  rw [this]; exact UInt8.ofNat_toNat

theorem valF_append (a : Nat) (l m : List UInt8) : valF a (l ++ m) = valF (valF a l) m := by
  induction l generalizing a with
  | nil => rw [List.nil_append, valF_nil]
  | cons c r ih => rw [List.cons_append, valF_cons, valF_cons, ih]
theorem val_snoc (l : List UInt8) (c : UInt8) : val (l ++ [c]) = 10 * val l + (c.toNat - 48) := by
  unfold val; rw [valF_append, valF_cons, valF_nil]
theorem valF_eq (a : Nat) (l : List UInt8) : valF a l = a * 10 ^ l.length + val l := by
  induction l generalizing a with
  | nil => simp [valF_nil, val]
  | cons c r ih =>
    unfold val at ih ⊢
    rw [valF_cons, valF_cons, List.length_cons, ih, ih (10 * 0 + (c.toNat - 48)), Nat.pow_succ, Nat.add_mul, Nat.mul_zero, Nat.zero_add, Nat.add_assoc]
    congr 1
    rw [Nat.mul_comm 10 a, Nat.mul_assoc, Nat.mul_comm 10]
theorem val_append (l m : List UInt8) : val (l ++ m) = val l * 10 ^ m.length + val m := by
  have h := valF_eq (valF 0 l) m
  unfold val at h ⊢
  rw [valF_append, h]
theorem val_cons (c : UInt8) (r : List UInt8) : val (c :: r) = (c.toNat - 48) * 10 ^ r.length + val r := by
  have h := valF_eq (10 * 0 + (c.toNat - 48)) r
  unfold val at h ⊢
  rw [valF_cons, h, Nat.mul_zero, Nat.zero_add]
theorem val_nil : val [] = 0 := by unfold val; rw [valF_nil]
theorem val_lt {l : List UInt8} (h : l.all isDig = true) : val l < 10 ^ l.length := by
  induction l with
  | nil => rw [val_nil]; decide
  | cons c r ih =>
    simp only [List.all_cons, Bool.and_eq_true] at h
    rw [val_cons, List.length_cons, Nat.pow_succ]
    have := ih h.2
    have h1 := (isDig_iff c).1 h.1
    have h2 : (c.toNat - 48) * 10 ^ r.length ≤ 9 * 10 ^ r.length := Nat.mul_le_mul_right _ (by omega)
    omega

theorem decDigits_small {u : Nat} (h : u < 10) : decDigits u = [UInt8.ofNat (48 + u)] := by rw [decDigits, dif_pos h]
theorem decDigits_big {u : Nat} (h : ¬ u < 10) : decDigits u = decDigits (u / 10) ++ [UInt8.ofNat (48 + u % 10)] := by rw [decDigits, dif_neg h]
theorem decDigits_ne (u : Nat) : decDigits u ≠ [] := by
  by_cases h : u < 10
  · rw [decDigits_small h]; simp
  · rw [decDigits_big h]; simp
theorem decDigits_all (u : Nat) : (decDigits u).all isDig = true := by
  induction u using Nat.strongRecOn with
  | _ u ih =>
    by_cases h : u < 10
    · rw [decDigits_small h, List.all_cons, isDig_of h]; rfl
    · rw [decDigits_big h, List.all_append, ih (u / 10) (by omega), List.all_cons, isDig_of (Nat.mod_lt u (by decide : 0 < 10))]; rfl
theorem val_one (c : UInt8) : val [c] = c.toNat - 48 := by
  rw [val_cons]; simp [val_nil]
theorem val_decDigits (u : Nat) : val (decDigits u) = u := by
  induction u using Nat.strongRecOn with
  | _ u ih =>
    by_cases h : u < 10
    · rw [decDigits_small h, val_one, dig_toNat h]; omega
    · rw [decDigits_big h, val_snoc, ih (u / 10) (by omega), dig_toNat (Nat.mod_lt u (by decide : 0 < 10))]; omega
theorem decDigits_len (u : Nat) : (decDigits u).length = nDigits u := decDigits_length u
theorem nDigits_le_iff (u k : Nat) (hk : 1 ≤ k) : nDigits u ≤ k ↔ u < 10 ^ k := by
  constructor
  · intro h
    exact Nat.lt_of_lt_of_le (lt_pow_nDigits u) (Nat.pow_le_pow_right (by decide) h)
  · intro h
    induction k generalizing u with
    | zero => omega
    | succ k ih =>
      by_cases hu : u < 10
      · rw [nDigits_small hu]; omega
      · rw [nDigits_big hu]
        cases k with
        | zero => simp at h; omega
        | succ k => have := ih (u / 10) (by omega) (by rw [Nat.pow_succ] at h; omega); omega
theorem nDigits_mono {u v : Nat} (h : u ≤ v) : nDigits u ≤ nDigits v :=
  (nDigits_le_iff u (nDigits v) (nDigits_pos v)).2 (Nat.lt_of_le_of_lt h (lt_pow_nDigits v))

/-- The first digit of a number that is not 0 is not '0'. -/
theorem decDigits_head {u : Nat} (h : u ≠ 0) : (decDigits u).head? ≠ some 48 := by
  induction u using Nat.strongRecOn with
  | _ u ih =>
    by_cases hu : u < 10
    · rw [decDigits_small hu]
      simp only [List.head?_cons, ne_eq, Option.some.injEq]
      intro e
      have := congrArg UInt8.toNat e
      rw [dig_toNat hu] at this
      simp at this; omega
    · rw [decDigits_big hu, List.head?_append]
      have h2 := ih (u / 10) (by omega) (by omega)
      cases hd : (decDigits (u / 10)).head? with
      | none => rw [List.head?_eq_none_iff] at hd; exact absurd hd (decDigits_ne _)
      | some c => rw [hd] at h2; simpa using h2
theorem natural_decDigits (u : Nat) : natural (decDigits u) = true := by
  unfold natural
  simp only [Bool.and_eq_true, Bool.or_eq_true]
  refine ⟨⟨?_, decDigits_all u⟩, ?_⟩
  · simp [decDigits_ne u]
  · by_cases h : u = 0
    · left; subst h; rw [decDigits_small (by decide)]; rfl
    · right; simpa using decDigits_head h
/-- Digits without leading zeros are the numeral of their value. -/
theorem decDigits_val {l : List UInt8} (h : natural l = true) : decDigits (val l) = l := by
  unfold natural at h
  simp only [Bool.and_eq_true, Bool.or_eq_true] at h
  obtain ⟨⟨h0, h1⟩, h2⟩ := h
  -- from the right
  generalize hn : l.length = n
  induction n generalizing l with
  | zero => rw [List.length_eq_zero_iff] at hn; subst hn; simp at h0
  | succ n ih =>
    rcases List.eq_nil_or_concat l with e | ⟨r, c, e⟩
    · subst e; simp at hn
    · rw [List.concat_eq_append] at e
      subst e
      rw [List.all_append] at h1
      simp only [Bool.and_eq_true, List.all_cons, List.all_nil, and_true] at h1
      have hc := (isDig_iff c).1 h1.2
      rw [val_snoc]
      by_cases hr : r = []
      · subst hr
        rw [val_nil, decDigits_small (by omega)]
        simp only [List.nil_append, List.cons.injEq, and_true]
        rw [show 10 * 0 + (c.toNat - 48) = c.toNat - 48 by omega]
        exact dig_back h1.2
      · have hlen : r.length = n := by simp at hn; exact hn
        have hn0 : r.length ≠ 0 := by simpa using hr
        have hh : r.head? ≠ some 48 := by
          rcases h2 with h2 | h2
          · simp at h2; exact absurd h2 hr
          · rw [List.head?_append] at h2
            cases hd : r.head? with
            | none => simp
            | some x => rw [hd] at h2; simpa using h2
        have hrec := ih (l := r) (h0 := by simpa using hr) (h1 := h1.1) (h2 := Or.inr (by simpa using hh)) hlen
        have hpos : val r ≠ 0 := by
          intro e
          rw [e, decDigits_small (by decide)] at hrec
          rw [← hrec] at hh
          exact hh rfl
        rw [decDigits_big (by omega), show (10 * val r + (c.toNat - 48)) / 10 = val r by omega, show (10 * val r + (c.toNat - 48)) % 10 = c.toNat - 48 by omega, hrec, dig_back h1.2]

/-! ### Integers -/
theorem itoa_nat (u : Nat) : itoa (u : Int) = decDigits u := by
  unfold itoa; rw [if_neg (by omega)]; simp
theorem itoa_neg {u : Nat} (h : u ≠ 0) : itoa (-(u : Int)) = 45 :: decDigits u := by
  unfold itoa; rw [if_pos (by omega)]; simp
theorem decDigits_no45 (u : Nat) : (decDigits u).head? ≠ some 45 := by
  intro h
  have := decDigits_all u
  cases hd : decDigits u with
  | nil => rw [hd] at h; cases h
  | cons c r =>
    rw [hd] at h this
    simp only [List.head?_cons, Option.some.injEq] at h
    subst h
    simp [isDig] at this
theorem itoa_ne (n : Int) : itoa n ≠ [] := by
  unfold itoa; split
  · simp
  · exact decDigits_ne _
/-- The sign, and what stands behind it. -/
def minus (l : List UInt8) : Bool := l.head? == some 45
def mag (l : List UInt8) : List UInt8 := if minus l then l.tail else l
theorem minus_itoa (n : Int) : minus (itoa n) = decide (n < 0) := by
  unfold minus itoa
  split
  · rename_i h; simp [h]
  · rename_i h
    simp only [h, decide_false]
    simpa using decDigits_no45 n.toNat
theorem mag_itoa (n : Int) : mag (itoa n) = decDigits n.natAbs := by
  unfold mag; rw [minus_itoa]
  by_cases h : n < 0
  · simp only [h, decide_true, if_true]; unfold itoa; rw [if_pos h]; rfl
  · simp only [h, decide_false]
    unfold itoa; rw [if_neg h, show n.natAbs = n.toNat by omega]; rfl
/-- The canonical integers, as a test. -/
def canon (l : List UInt8) : Bool := natural (mag l) && (!minus l || mag l != [48])
def ival (l : List UInt8) : Int := if minus l then -(val (mag l) : Int) else val (mag l)
theorem ival_itoa (n : Int) : ival (itoa n) = n := by
  unfold ival; rw [minus_itoa, mag_itoa, val_decDigits]
  by_cases h : n < 0
  · simp only [h, decide_true, if_true]; omega
  · simp only [h, decide_false]; simp; omega
theorem canon_itoa (n : Int) : canon (itoa n) = true := by
  unfold canon
  rw [mag_itoa, minus_itoa, natural_decDigits]
  simp only [Bool.true_and, Bool.or_eq_true]
  by_cases h : n < 0
  · right
    simp only [bne_iff_ne, ne_eq]
    intro e
    have := congrArg val e
    rw [val_decDigits, val_one] at this
    simp at this
    omega
  · left; simp [h]
theorem itoa_ival {l : List UInt8} (h : canon l = true) : itoa (ival l) = l := by
  unfold canon at h
  simp only [Bool.and_eq_true, Bool.or_eq_true] at h
  obtain ⟨h1, h2⟩ := h
  have hv := decDigits_val h1
  unfold ival
  by_cases hm : minus l = true
  · simp only [hm, if_true]
    have hl : l = 45 :: mag l := by
      unfold mag; rw [if_pos hm]
      cases l with
      | nil => simp [minus] at hm
      | cons c r => simp [minus] at hm; simp [hm]
    have h0 : val (mag l) ≠ 0 := by
      intro e
      rw [e, decDigits_small (by decide)] at hv
      rcases h2 with h2 | h2
      · rw [hm] at h2; cases h2
      · rw [← hv] at h2; simp at h2
    rw [itoa_neg h0, hv]; exact hl.symm
  · simp only [hm, if_false, Bool.false_eq_true]
    have hl : mag l = l := by unfold mag; rw [if_neg hm]
    rw [itoa_nat, hv, hl]
theorem canon_iff (l : List UInt8) : canon l = true ↔ ∃ n, l = itoa n :=
  ⟨fun h => ⟨ival l, (itoa_ival h).symm⟩, fun ⟨n, e⟩ => by rw [e]; exact canon_itoa n⟩
theorem itoa_inj {m n : Int} (h : itoa m = itoa n) : m = n := by
  have := congrArg ival h; rwa [ival_itoa, ival_itoa] at this
theorem decDigits_inj {m n : Nat} (h : decDigits m = decDigits n) : m = n := by
  have := congrArg val h; rwa [val_decDigits, val_decDigits] at this

/-! ### Nine digits at a time -/
/-- k digits of u, with zeros in front. -/
def padDigits : Nat → Nat → List UInt8
  | 0, _ => []
  | k + 1, u => padDigits k (u / 10) ++ [UInt8.ofNat (48 + u % 10)]
theorem padDigits_length (k u : Nat) : (padDigits k u).length = k := by
  induction k generalizing u with
  | zero => rfl
  | succ k ih => simp [padDigits, ih]
theorem decDigits_chunk (k u v : Nat) (hu : u ≠ 0) (hv : v < 10 ^ k) : decDigits (u * 10 ^ k + v) = decDigits u ++ padDigits k v := by
  induction k generalizing v with
  | zero => simp at hv; subst hv; simp [padDigits]
  | succ k ih =>
    have hp : 1 ≤ 10 ^ k := Nat.one_le_pow _ _ (by decide)
    have hge : 10 ≤ u * 10 ^ (k + 1) + v := by
      have h1 : 1 * 10 ^ (k + 1) ≤ u * 10 ^ (k + 1) := Nat.mul_le_mul_right _ (by omega)
      rw [Nat.pow_succ] at h1 ⊢; omega
    rw [decDigits_big (by omega)]
    have e1 : (u * 10 ^ (k + 1) + v) / 10 = u * 10 ^ k + v / 10 := by
      rw [Nat.pow_succ, ← Nat.mul_assoc]; omega
    have e2 : (u * 10 ^ (k + 1) + v) % 10 = v % 10 := by
      rw [Nat.pow_succ, ← Nat.mul_assoc]; omega
    rw [e1, e2, ih (v / 10) (by rw [Nat.pow_succ] at hv; omega)]
    simp [padDigits]
/-- The numeral of a number of k digits at most, with zeros in front. -/
theorem padDigits_eq (k u : Nat) (hk : 1 ≤ k) (hu : u < 10 ^ k) : padDigits k u = List.replicate (k - (decDigits u).length) 48 ++ decDigits u := by
  induction k generalizing u with
  | zero => omega
  | succ k ih =>
    by_cases h : u < 10
    · rw [decDigits_small h]
      simp only [padDigits, List.length_cons, List.length_nil]
      rw [show u / 10 = 0 by omega, show u % 10 = u by omega]
      have : ∀ j, padDigits j 0 = List.replicate j 48 := by
        intro j
        induction j with
        | zero => rfl
        | succ j ihj => simp only [padDigits, Nat.zero_div, ihj, List.replicate_succ']; rfl
      rw [this]; rfl
    · cases k with
      | zero => simp at hu; omega
      | succ k =>
        rw [padDigits, decDigits_big h, ih (u / 10) (by omega) (by rw [Nat.pow_succ] at hu; omega)]
        simp only [List.length_append, List.length_cons, List.length_nil]
        rw [show k + 1 + 1 - ((decDigits (u / 10)).length + (0 + 1)) = k + 1 - (decDigits (u / 10)).length by omega, List.append_assoc]
theorem nDigits_lim {u : Nat} (h : u < Lim) : nDigits u ≤ 1024 := by
  unfold Lim at h
  have := (nDigits_le_iff u limE (by rw [limE_eq]; decide)).2 h
  rwa [limE_eq] at this
theorem lim_le {k : Nat} (h : k ≤ 1024) : 10 ^ k ≤ Lim := by
  unfold Lim
  exact Nat.pow_le_pow_right (by decide) (by rw [limE_eq]; exact h)
theorem le_lim {k : Nat} (h : 1024 ≤ k) : Lim ≤ 10 ^ k := by
  unfold Lim
  exact Nat.pow_le_pow_right (by decide) (by rw [limE_eq]; exact h)
theorem lim_big : 1000000000000000000 < Lim := Nat.lt_of_lt_of_le (by decide : 1000000000000000000 < 10 ^ 19) (lim_le (by decide))
end Go.Proofs.YtlmdpamehhcblaaGreatDoorD
