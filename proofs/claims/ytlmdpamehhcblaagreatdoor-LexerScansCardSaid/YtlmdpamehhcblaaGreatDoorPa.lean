import Derived.Lib.ItoaNum
import Derived.Lib.AtoiAll
import Derived.Lib.Bytealg
import Derived.Lib.IndexMore
/- Plain laws on decimal numerals as lists of bytes: value, canonical form, lengths, order. No program in sight. -/
namespace Go.Proofs.YtlmdpamehhcblaaGreatDoorD
open Go.Lib

/-- The least number that has too many digits for an Int. -/
def limE : Nat := 1024
theorem limE_eq : limE = 1024 := rfl
def Lim : Nat := 10 ^ limE
/-- Is a byte a decimal digit? -/
def isDig (c : UInt8) : Bool := decide (48 ≤ c.toNat) && decide (c.toNat ≤ 57)
/-- The value of digits, behind digits of value a. -/
def valF (a : Nat) (l : List UInt8) : Nat := l.foldl (fun a c => 10 * a + (c.toNat - 48)) a
theorem valF_nil (a : Nat) : valF a [] = a := by unfold valF; rw [List.foldl_nil]
theorem valF_cons (a : Nat) (c : UInt8) (r : List UInt8) : valF a (c :: r) = valF (10 * a + (c.toNat - 48)) r := by unfold valF; rw [List.foldl_cons]
attribute [irreducible] valF
def val (l : List UInt8) : Nat := valF 0 l
/-- Digits without leading zeros, one at least. -/
def natural (l : List UInt8) : Bool := !l.isEmpty && l.all isDig && (l.length == 1 || l.head? != some 48)

theorem isDig_iff (c : UInt8) : isDig c = true ↔ 48 ≤ c.toNat ∧ c.toNat ≤ 57 := by simp [isDig]
theorem dig_toNat {d : Nat} (h : d < 10) : (UInt8.ofNat (48 + d)).toNat = 48 + d := by
  rw [UInt8.toNat_ofNat']; omega
theorem isDig_of {d : Nat} (h : d < 10) : isDig (UInt8.ofNat (48 + d)) = true := by rw [isDig_iff, dig_toNat h]; omega
theorem dig_back {c : UInt8} (h : isDig c = true) : UInt8.ofNat (48 + (c.toNat - 48)) = c := by
  rw [isDig_iff] at h
  have : 48 + (c.toNat - 48) = c.toNat := by omega
  rw [this]; exact UInt8.ofNat_toNat

theorem valF_append (a : Nat) (l m : List UInt8) : valF a (l ++ m) = valF (valF a l) m := by
  induction l generalizing a with
  | nil => rw [List.nil_append, valF_nil]
  | cons c r ih => rw [List.cons_append, valF_cons, valF_cons, ih]
theorem val_snoc (l : List UInt8) (c : UInt8) : val (l ++ [c]) = 10 * val l + (c.toNat - 48) := by
  unfold val; rw [valF_append, valF_cons, valF_nil]
theorem valF_eq (a : Nat) (l : List UInt8) : valF a l = a * 10 ^ l.length + val l := by
  induction l generalizing a with
  | nil => simp [valF_nil, val]
  | cons c r ih =>
    unfold val at ih ⊢
    rw [valF_cons, valF_cons, List.length_cons, ih, ih (10 * 0 + (c.toNat - 48)), Nat.pow_succ, Nat.add_mul, Nat.mul_zero, Nat.zero_add, Nat.add_assoc]
    congr 1
    rw [Nat.mul_comm 10 a, Nat.mul_assoc, Nat.mul_comm 10]
theorem val_append (l m : List UInt8) : val (l ++ m) = val l * 10 ^ m.length + val m := by
  have h := valF_eq (valF 0 l) m
  unfold val at h ⊢
  rw [valF_append, h]
theorem val_cons (c : UInt8) (r : List UInt8) : val (c :: r) = (c.toNat - 48) * 10 ^ r.length + val r := by
  have h := valF_eq (10 * 0 + (c.toNat - 48)) r
  unfold val at h ⊢
  rw [valF_cons, h, Nat.mul_zero, Nat.zero_add]
theorem val_nil : val [] = 0 := by unfold val; rw [valF_nil]
theorem val_lt {l : List UInt8} (h : l.all isDig = true) : val l < 10 ^ l.length := by
  induction l with
  | nil => rw [val_nil]; decide
  | cons c r ih =>
    simp only [List.all_cons, Bool.and_eq_true] at h
    rw [val_cons, List.length_cons, Nat.pow_succ]
    have := ih h.2
    have h1 := (isDig_iff c).1 h.1
    have h2 : (c.toNat - 48) * 10 ^ r.length ≤ 9 * 10 ^ r.length := Nat.mul_le_mul_right _ (by omega)
    omega

theorem decDigits_small {u : Nat} (h : u < 10) : decDigits u = [UInt8.ofNat (48 + u)] := by rw [decDigits, dif_pos h]
theorem decDigits_big {u : Nat} (h : ¬ u < 10) : decDigits u = decDigits (u / 10) ++ [UInt8.ofNat (48 + u % 10)] := by rw [decDigits, dif_neg h]
theorem decDigits_ne (u : Nat) : decDigits u ≠ [] := by
  by_cases h : u < 10
  · rw [decDigits_small h]; simp
  · rw [decDigits_big h]; simp
theorem decDigits_all (u : Nat) : (decDigits u).all isDig = true := by
  induction u using Nat.strongRecOn with
  | _ u ih =>
    by_cases h : u < 10
    · rw [decDigits_small h, List.all_cons, isDig_of h]; rfl
    · rw [decDigits_big h, List.all_append, ih (u / 10) (by omega), List.all_cons, isDig_of (Nat.mod_lt u (by decide : 0 < 10))]; rfl
theorem val_one (c : UInt8) : val [c] = c.toNat - 48 := by
  rw [val_cons]; simp [val_nil]
theorem val_decDigits (u : Nat) : val (decDigits u) = u := by
  induction u using Nat.strongRecOn with
  | _ u ih =>
    by_cases h : u < 10
    · rw [decDigits_small h, val_one, dig_toNat h]; omega
    · rw [decDigits_big h, val_snoc, ih (u / 10) (by omega), dig_toNat (Nat.mod_lt u (by decide : 0 < 10))]; omega
theorem decDigits_len (u : Nat) : (decDigits u).length = nDigits u := decDigits_length u
theorem nDigits_le_iff (u k : Nat) (hk : 1 ≤ k) : nDigits u ≤ k ↔ u < 10 ^ k := by
  constructor
  · intro h
    exact Nat.lt_of_lt_of_le (lt_pow_nDigits u) (Nat.pow_le_pow_right (by decide) h)
  · intro h
    induction k generalizing u with
    | zero => omega
    | succ k ih =>
      by_cases hu : u < 10
      · rw [nDigits_small hu]; omega
      · rw [nDigits_big hu]
        cases k with
        | zero => simp at h; omega
        | succ k => have := ih (u / 10) (by omega) (by rw [Nat.pow_succ] at h; omega); omega
theorem nDigits_mono {u v : Nat} (h : u ≤ v) : nDigits u ≤ nDigits v :=
  (nDigits_le_iff u (nDigits v) (nDigits_pos v)).2 (Nat.lt_of_le_of_lt h (lt_pow_nDigits v))

/-- The first digit of a number that is not 0 is not '0'. -/
theorem decDigits_head {u : Nat} (h : u ≠ 0) : (decDigits u).head? ≠ some 48 := by
  induction u using Nat.strongRecOn with
  | _ u ih =>
    by_cases hu : u < 10
    · rw [decDigits_small hu]
      simp only [List.head?_cons, ne_eq, Option.some.injEq]
      intro e
      have := congrArg UInt8.toNat e
      rw [dig_toNat hu] at this
      simp at this; omega
    · rw [decDigits_big hu, List.head?_append]
      have h2 := ih (u / 10) (by omega) (by omega)
      cases hd : (decDigits (u / 10)).head? with
      | none => rw [List.head?_eq_none_iff] at hd; exact absurd hd (decDigits_ne _)
      | some c => rw [hd] at h2; simpa using h2
theorem natural_decDigits (u : Nat) : natural (decDigits u) = true := by
  unfold natural
  simp only [Bool.and_eq_true, Bool.or_eq_true]
  refine ⟨⟨?_, decDigits_all u⟩, ?_⟩
  · simp [decDigits_ne u]
  · by_cases h : u = 0
    · left; subst h; rw [decDigits_small (by decide)]; rfl
    · right; simpa using decDigits_head h
/-- Digits without leading zeros are the numeral of their value. -/
theorem decDigits_val {l : List UInt8} (h : natural l = true) : decDigits (val l) = l := by
  unfold natural at h
  simp only [Bool.and_eq_true, Bool.or_eq_true] at h
  obtain ⟨⟨h0, h1⟩, h2⟩ := h
  -- from the right
  generalize hn : l.length = n
  induction n generalizing l with
  | zero => rw [List.length_eq_zero_iff] at hn; subst hn; simp at h0
  | succ n ih =>
    rcases List.eq_nil_or_concat l with e | ⟨r, c, e⟩
    · subst e; simp at hn
    · rw [List.concat_eq_append] at e
      subst e
      rw [List.all_append] at h1
      simp only [Bool.and_eq_true, List.all_cons, List.all_nil, and_true] at h1
      have hc := (isDig_iff c).1 h1.2
      rw [val_snoc]
      by_cases hr : r = []
      · subst hr
        rw [val_nil, decDigits_small (by omega)]
        simp only [List.nil_append, List.cons.injEq, and_true]
        rw [show 10 * 0 + (c.toNat - 48) = c.toNat - 48 by omega]
        exact dig_back h1.2
      · have hlen : r.length = n := by simp at hn; exact hn
        have hn0 : r.length ≠ 0 := by simpa using hr
        have hh : r.head? ≠ some 48 := by
          rcases h2 with h2 | h2
          · simp at h2; exact absurd h2 hr
          · rw [List.head?_append] at h2
            cases hd : r.head? with
            | none => simp
            | some x => rw [hd] at h2; simpa using h2
        have hrec := ih (l := r) (h0 := by simpa using hr) (h1 := h1.1) (h2 := Or.inr (by simpa using hh)) hlen
        have hpos : val r ≠ 0 := by
          intro e
          rw [e, decDigits_small (by decide)] at hrec
          rw [← hrec] at hh
          exact hh rfl
        rw [decDigits_big (by omega), show (10 * val r + (c.toNat - 48)) / 10 = val r by omega, show (10 * val r + (c.toNat - 48)) % 10 = c.toNat - 48 by omega, hrec, dig_back h1.2]

/-! ### Integers -/
theorem itoa_nat (u : Nat) : itoa (u : Int) = decDigits u := by
  unfold itoa; rw [if_neg (by omega)]; simp
theorem itoa_neg {u : Nat} (h : u ≠ 0) : itoa (-(u : Int)) = 45 :: decDigits u := by
  unfold itoa; rw [if_pos (by omega)]; simp
theorem decDigits_no45 (u : Nat) : (decDigits u).head? ≠ some 45 := by
  intro h
  have := decDigits_all u
  cases hd : decDigits u with
  | nil => rw [hd] at h; cases h
  | cons c r =>
    rw [hd] at h this
    simp only [List.head?_cons, Option.some.injEq] at h
    subst h
    simp [isDig] at this
theorem itoa_ne (n : Int) : itoa n ≠ [] := by
  unfold itoa; split
  · simp
  · exact decDigits_ne _
/-- The sign, and what stands behind it. -/
def minus (l : List UInt8) : Bool := l.head? == some 45
def mag (l : List UInt8) : List UInt8 := if minus l then l.tail else l
theorem minus_itoa (n : Int) : minus (itoa n) = decide (n < 0) := by
  unfold minus itoa
  split
  · rename_i h; simp [h]
  · rename_i h
    simp only [h, decide_false]
    simpa using decDigits_no45 n.toNat
theorem mag_itoa (n : Int) : mag (itoa n) = decDigits n.natAbs := by
  unfold mag; rw [minus_itoa]
  by_cases h : n < 0
  · simp only [h, decide_true, if_true]; unfold itoa; rw [if_pos h]; rfl
  · simp only [h, decide_false]
    unfold itoa; rw [if_neg h, show n.natAbs = n.toNat by omega]; rfl
/-- The canonical integers, as a test. -/
def canon (l : List UInt8) : Bool := natural (mag l) && (!minus l || mag l != [48])
def ival (l : List UInt8) : Int := if minus l then -(val (mag l) : Int) else val (mag l)
theorem ival_itoa (n : Int) : ival (itoa n) = n := by
  unfold ival; rw [minus_itoa, mag_itoa, val_decDigits]
  by_cases h : n < 0
  · simp only [h, decide_true, if_true]; omega
  · simp only [h, decide_false]; simp; omega
theorem canon_itoa (n : Int) : canon (itoa n) = true := by
  unfold canon
  rw [mag_itoa, minus_itoa, natural_decDigits]
  simp only [Bool.true_and, Bool.or_eq_true]
  by_cases h : n < 0
  · right
    simp only [bne_iff_ne, ne_eq]
    intro e
    have := congrArg val e
    rw [val_decDigits, val_one] at this
    simp at this
    omega
  · left; simp [h]
theorem itoa_ival {l : List UInt8} (h : canon l = true) : itoa (ival l) = l := by
  unfold canon at h
  simp only [Bool.and_eq_true, Bool.or_eq_true] at h
  obtain ⟨h1, h2⟩ := h
  have hv := decDigits_val h1
  unfold ival
  by_cases hm : minus l = true
  · simp only [hm, if_true]
    have hl : l = 45 :: mag l := by
      unfold mag; rw [if_pos hm]
      cases l with
      | nil => simp [minus] at hm
      | cons c r => simp [minus] at hm; simp [hm]
    have h0 : val (mag l) ≠ 0 := by
      intro e
      rw [e, decDigits_small (by decide)] at hv
      rcases h2 with h2 | h2
      · rw [hm] at h2; cases h2
      · rw [← hv] at h2; simp at h2
    rw [itoa_neg h0, hv]; exact hl.symm
  · simp only [hm, if_false, Bool.false_eq_true]
    have hl : mag l = l := by unfold mag; rw [if_neg hm]
    rw [itoa_nat, hv, hl]
theorem canon_iff (l : List UInt8) : canon l = true ↔ ∃ n, l = itoa n :=
  ⟨fun h => ⟨ival l, (itoa_ival h).symm⟩, fun ⟨n, e⟩ => by rw [e]; exact canon_itoa n⟩
theorem itoa_inj {m n : Int} (h : itoa m = itoa n) : m = n := by
  have := congrArg ival h; rwa [ival_itoa, ival_itoa] at this
theorem decDigits_inj {m n : Nat} (h : decDigits m = decDigits n) : m = n := by
  have := congrArg val h; rwa [val_decDigits, val_decDigits] at this

/-! ### Nine digits at a time -/
/-- k digits of u, with zeros in front. -/
def padDigits : Nat → Nat → List UInt8
  | 0, _ => []
  | k + 1, u => padDigits k (u / 10) ++ [UInt8.ofNat (48 + u % 10)]
theorem padDigits_length (k u : Nat) : (padDigits k u).length = k := by
  induction k generalizing u with
  | zero => rfl
  | succ k ih => simp [padDigits, ih]
theorem decDigits_chunk (k u v : Nat) (hu : u ≠ 0) (hv : v < 10 ^ k) : decDigits (u * 10 ^ k + v) = decDigits u ++ padDigits k v := by
  induction k generalizing v with
  | zero => simp at hv; subst hv; simp [padDigits]
  | succ k ih =>
    have hp : 1 ≤ 10 ^ k := Nat.one_le_pow _ _ (by decide)
    have hge : 10 ≤ u * 10 ^ (k + 1) + v := by
      have h1 : 1 * 10 ^ (k + 1) ≤ u * 10 ^ (k + 1) := Nat.mul_le_mul_right _ (by omega)
      rw [Nat.pow_succ] at h1 ⊢; omega
    rw [decDigits_big (by omega)]
    have e1 : (u * 10 ^ (k + 1) + v) / 10 = u * 10 ^ k + v / 10 := by
      rw [Nat.pow_succ, ← Nat.mul_assoc]; omega
    have e2 : (u * 10 ^ (k + 1) + v) % 10 = v % 10 := by
      rw [Nat.pow_succ, ← Nat.mul_assoc]; omega
    rw [e1, e2, ih (v / 10) (by rw [Nat.pow_succ] at hv; omega)]
    simp [padDigits]
/-- The numeral of a number of k digits at most, with zeros in front. -/
theorem padDigits_eq (k u : Nat) (hk : 1 ≤ k) (hu : u < 10 ^ k) : padDigits k u = List.replicate (k - (decDigits u).length) 48 ++ decDigits u := by
  induction k generalizing u with
  | zero => omega
  | succ k ih =>
    by_cases h : u < 10
    · rw [decDigits_small h]
      simp only [padDigits, List.length_cons, List.length_nil]
      rw [show u / 10 = 0 by omega, show u % 10 = u by omega]
      have : ∀ j, padDigits j 0 = List.replicate j 48 := by
        intro j
        induction j with
        | zero => rfl
        | succ j ihj => simp only [padDigits, Nat.zero_div, ihj, List.replicate_succ']; rfl
      rw [this]; rfl
    · cases k with
      | zero => simp at hu; omega
      | succ k =>
        rw [padDigits, decDigits_big h, ih (u / 10) (by omega) (by rw [Nat.pow_succ] at hu; omega)]
        simp only [List.length_append, List.length_cons, List.length_nil]
        rw [show k + 1 + 1 - ((decDigits (u / 10)).length + (0 + 1)) = k + 1 - (decDigits (u / 10)).length by omega, List.append_assoc]
theorem nDigits_lim {u : Nat} (h : u < Lim) : nDigits u ≤ 1024 := by
  unfold Lim at h
  have := (nDigits_le_iff u limE (by rw [limE_eq]; decide)).2 h
  rwa [limE_eq] at this
theorem lim_le {k : Nat} (h : k ≤ 1024) : 10 ^ k ≤ Lim := by
  unfold Lim
  exact Nat.pow_le_pow_right (by decide) (by rw [limE_eq]; exact h)
theorem le_lim {k : Nat} (h : 1024 ≤ k) : Lim ≤ 10 ^ k := by
  unfold Lim
  exact Nat.pow_le_pow_right (by decide) (by rw [limE_eq]; exact h)
theorem lim_big : 1000000000000000000 < Lim := Nat.lt_of_lt_of_le (by decide : 1000000000000000000 < 10 ^ 19) (lim_le (by decide))
end Go.Proofs.YtlmdpamehhcblaaGreatDoorD
/- Plain laws on the texts of rational numbers: a numeral, or a numeral, a stroke and a numeral, in lowest terms. No program in sight. -/
namespace Go.Proofs.YtlmdpamehhcblaaGreatDoorD
open Go.Lib

/-- The text of a rational number. -/
def rtext (q : Rat) : List UInt8 := if q.den = 1 then itoa q.num else itoa q.num ++ 47 :: decDigits q.den
/-- What a numerator and a denominator are joined to. -/
def rjoin (n d : List UInt8) : List UInt8 := if d = [49] then n else n ++ 47 :: d

theorem decDigits_1 : decDigits 1 = [49] := by rw [decDigits_small (by decide)]; rfl
theorem decDigits_eq_1 {d : Nat} : decDigits d = [49] ↔ d = 1 :=
  ⟨fun h => decDigits_inj (h.trans decDigits_1.symm), fun h => by rw [h]; exact decDigits_1⟩
theorem rjoin_eq (n : Int) (d : Nat) (hd : d ≠ 0) (h : n.natAbs.Coprime d) : rjoin (itoa n) (decDigits d) = rtext ⟨n, d, hd, h⟩ := by
  unfold rjoin rtext
  by_cases e : d = 1
  · subst e; rw [if_pos decDigits_1]; rfl
  · rw [if_neg (fun x => e (decDigits_eq_1.1 x))]; simp only [e, if_false]
theorem rjoin_q (q : Rat) : rjoin (itoa q.num) (decDigits q.den) = rtext q := rjoin_eq q.num q.den q.den_nz q.reduced
theorem itoa_no47 (n : Int) : (47 : UInt8) ∉ itoa n := by
  have hd : ∀ u : Nat, (47 : UInt8) ∉ decDigits u := fun u h => by
    have := decDigits_all u
    rw [List.all_eq_true] at this
    have := this _ h
    simp [isDig] at this
  unfold itoa
  split
  · intro h
    rcases List.mem_cons.1 h with h | h
    · exact absurd h (by decide)
    · exact hd _ h
  · exact hd _
theorem rtext_ne (q : Rat) : rtext q ≠ [] := by
  unfold rtext; split
  · exact itoa_ne _
  · simp
theorem rtext_int {q : Rat} (h : q.den = 1) : rtext q = itoa q.num := by unfold rtext; rw [if_pos h]
theorem rtext_ofInt (n : Int) : rtext (n : Rat) = itoa n := rtext_int (by simp)
theorem mkRat_eq (n : Int) (d : Nat) (hd : d ≠ 0) : mkRat n d = Rat.normalize n d hd := by simp [mkRat, hd]
theorem mkRat_num (n : Int) (d : Nat) (hd : d ≠ 0) : (mkRat n d).num = n / (Int.gcd n d : Nat) := by
  rw [mkRat_eq n d hd, Rat.normalize_eq]; rfl
theorem mkRat_den (n : Int) (d : Nat) (hd : d ≠ 0) : (mkRat n d).den = d / Int.gcd n d := by
  rw [mkRat_eq n d hd, Rat.normalize_eq]; rfl
/-- A quotient in lowest terms. -/
theorem lowest_eq (n : Int) (d : Nat) (hd : d ≠ 0) : rjoin (itoa (n / (Int.gcd n d : Nat))) (decDigits (d / Int.gcd n d)) = rtext (mkRat n d) := by
  rw [← rjoin_q, mkRat_num n d hd, mkRat_den n d hd]
theorem add_mk (a b : Rat) : a + b = mkRat (a.num * b.den + b.num * a.den) (a.den * b.den) := by
  rw [Rat.add_def, mkRat_eq _ _ (Nat.mul_ne_zero a.den_nz b.den_nz)]
theorem mul_mk (a b : Rat) : a * b = mkRat (a.num * b.num) (a.den * b.den) := by
  rw [Rat.mul_def, mkRat_eq _ _ (Nat.mul_ne_zero a.den_nz b.den_nz)]
theorem rtext_inj {a b : Rat} (h : rtext a = rtext b) : a = b := by
  have key : ∀ (l m r s : List UInt8), (47 : UInt8) ∉ l → (47 : UInt8) ∉ m → l ++ 47 :: r = m ++ 47 :: s → l = m ∧ r = s := by
    intro l
    induction l with
    | nil =>
      intro m r s _ hm h
      cases m with
      | nil => simp at h; exact ⟨rfl, h⟩
      | cons c m => simp at h; exact absurd (by rw [h.1]; exact List.mem_cons_self) hm
    | cons c l ih =>
      intro m r s hl hm h
      cases m with
      | nil => simp at h; exact absurd (by rw [← h.1]; exact List.mem_cons_self) hl
      | cons x m =>
        simp only [List.cons_append, List.cons.injEq] at h
        obtain ⟨h1, h2⟩ := ih m r s (fun x => hl (List.mem_cons_of_mem _ x)) (fun x => hm (List.mem_cons_of_mem _ x)) h.2
        exact ⟨by rw [h.1, h1], h2⟩
  unfold rtext at h
  by_cases ha : a.den = 1 <;> by_cases hb : b.den = 1
  · rw [if_pos ha, if_pos hb] at h
    exact Rat.ext (itoa_inj h) (ha.trans hb.symm)
  · rw [if_pos ha, if_neg hb] at h
    exact absurd (by rw [h]; simp) (itoa_no47 a.num)
  · rw [if_neg ha, if_pos hb] at h
    exact absurd (by rw [← h]; simp) (itoa_no47 b.num)
  · rw [if_neg ha, if_neg hb] at h
    obtain ⟨h1, h2⟩ := key _ _ _ _ (itoa_no47 _) (itoa_no47 _) h
    exact Rat.ext (itoa_inj h1) (decDigits_inj h2)
end Go.Proofs.YtlmdpamehhcblaaGreatDoorD
/- Plain laws on words of a base 10^9: the words of a number, how many there are, sums of words, their order, quotients. No program in sight. -/
namespace Go.Proofs.YtlmdpamehhcblaaGreatDoorV

/-- The base. -/
def B : Nat := 1000000000
theorem B_eq : B = 1000000000 := rfl
theorem B_pos : 0 < B := by decide
theorem Bp_pos (i : Nat) : 0 < B ^ i := Nat.pow_pos B_pos
/-- Word i of a number. -/
def wd (v i : Nat) : Nat := v / B ^ i % B
theorem wd_lt (v i : Nat) : wd v i < B := Nat.mod_lt _ B_pos
/-- How many words a number has. -/
def nw (v : Nat) : Nat := if h : v = 0 then 0 else nw (v / B) + 1
termination_by v
decreasing_by exact Nat.div_lt_self (by omega) (by decide)
theorem nw_zero : nw 0 = 0 := by rw [nw, dif_pos rfl]
theorem nw_pos {v : Nat} (h : v ≠ 0) : nw v = nw (v / B) + 1 := by rw [nw, dif_neg h]
theorem lt_pow_nw (v : Nat) : v < B ^ nw v := by
  induction v using Nat.strongRecOn with
  | _ v ih =>
    by_cases h : v = 0
    · subst h; rw [nw_zero]; decide
    · rw [nw_pos h, Nat.pow_succ]
      have := ih (v / B) (Nat.div_lt_self (by omega) (by decide))
      exact (Nat.div_lt_iff_lt_mul B_pos).1 this
theorem nw_le_iff (v n : Nat) : nw v ≤ n ↔ v < B ^ n := by
  constructor
  · intro h; exact Nat.lt_of_lt_of_le (lt_pow_nw v) (Nat.pow_le_pow_right B_pos h)
  · intro h
    induction n generalizing v with
    | zero => simp at h; subst h; rw [nw_zero]; omega
    | succ n ih =>
      by_cases h0 : v = 0
      · subst h0; rw [nw_zero]; omega
      · rw [nw_pos h0]
        have := ih (v / B) ((Nat.div_lt_iff_lt_mul B_pos).2 (by rwa [Nat.pow_succ] at h))
        omega
theorem nw_mono {u v : Nat} (h : u ≤ v) : nw u ≤ nw v := (nw_le_iff _ _).2 (Nat.lt_of_le_of_lt h (lt_pow_nw v))
theorem wd_zero_of {v i : Nat} (h : nw v ≤ i) : wd v i = 0 := by
  unfold wd
  rw [Nat.div_eq_of_lt ((nw_le_iff _ _).1 h)]; rfl
theorem pow_le_of_nw {v : Nat} (h : v ≠ 0) : B ^ (nw v - 1) ≤ v := by
  apply Nat.le_of_not_lt
  intro hl
  have := (nw_le_iff v (nw v - 1)).2 hl
  rw [nw_pos h] at this
  omega
theorem nw_ne_zero {v : Nat} (h : v ≠ 0) : nw v ≠ 0 := by rw [nw_pos h]; omega
theorem eq_zero_of_nw {v : Nat} (h : nw v = 0) : v = 0 := by
  by_cases e : v = 0
  · exact e
  · exact absurd h (nw_ne_zero e)
theorem wd_top {v : Nat} (h : v ≠ 0) : wd v (nw v - 1) ≠ 0 := by
  unfold wd
  have h1 := pow_le_of_nw h
  have h2 := lt_pow_nw v
  have e : nw v = nw v - 1 + 1 := by have := nw_ne_zero h; omega
  have h3 : v / B ^ (nw v - 1) < B := by
    apply (Nat.div_lt_iff_lt_mul (Bp_pos _)).2
    rw [e, Nat.pow_succ] at h2
    rw [Nat.mul_comm]; exact h2
  rw [Nat.mod_eq_of_lt h3]
  have := Nat.div_pos h1 (Bp_pos _)
  omega
theorem div_succ (v i : Nat) : v / B ^ i = v / B ^ (i + 1) * B + wd v i := by
  unfold wd
  rw [Nat.pow_succ, ← Nat.div_div_eq_div_mul]
  have := Nat.div_add_mod (v / B ^ i) B
  rw [Nat.mul_comm]; exact this.symm
theorem mod_succ (v i : Nat) : v % B ^ (i + 1) = v % B ^ i + wd v i * B ^ i := by
  unfold wd
  rw [Nat.pow_succ, Nat.mod_mul, Nat.mul_comm (v / B ^ i % B)]
theorem mod_nw (v i : Nat) (h : nw v ≤ i) : v % B ^ i = v := Nat.mod_eq_of_lt ((nw_le_iff _ _).1 h)
theorem wd_one {v : Nat} (h : v < B) : wd v 0 = v := by unfold wd; rw [Nat.pow_zero, Nat.div_one, Nat.mod_eq_of_lt h]

/-! ### Order -/
theorem lt_of_nw {x y : Nat} (h : nw x < nw y) : x < y := by
  apply Nat.lt_of_not_le
  intro hl
  have := nw_mono hl
  omega
/-- The first word from above that differs decides. -/
theorem lt_of_word {x y i : Nat} (h : x / B ^ (i + 1) = y / B ^ (i + 1)) (hw : wd x i < wd y i) : x < y := by
  apply Nat.lt_of_not_le
  intro hl
  have h1 : y / B ^ i ≤ x / B ^ i := Nat.div_le_div_right hl
  rw [div_succ x i, div_succ y i, h] at h1
  omega
theorem div_eq_step {x y i : Nat} (h : x / B ^ (i + 1) = y / B ^ (i + 1)) (hw : wd x i = wd y i) : x / B ^ i = y / B ^ i := by
  rw [div_succ x i, div_succ y i, h, hw]
theorem div_top_eq {x y : Nat} (h : nw x = nw y) : x / B ^ nw x = y / B ^ nw x := by
  rw [Nat.div_eq_of_lt (lt_pow_nw x), h, Nat.div_eq_of_lt (lt_pow_nw y)]

/-! ### Sums of words -/
/-- What the first n words come to. -/
def tot (f : Nat → Int) : Nat → Int
  | 0 => 0
  | n + 1 => tot f n + f n * (B ^ n : Nat)
theorem tot_zero (f : Nat → Int) : tot f 0 = 0 := by simp only [tot]
theorem tot_succ (f : Nat → Int) (n : Nat) : tot f (n + 1) = tot f n + f n * (B ^ n : Nat) := by simp only [tot]
/-- One word is written. -/
def upd (f : Nat → Int) (i : Nat) (v : Int) : Nat → Int := fun j => if j = i then v else f j
theorem upd_same (f : Nat → Int) (i : Nat) (v : Int) : upd f i v i = v := by simp [upd]
theorem upd_other (f : Nat → Int) {i j : Nat} (v : Int) (h : j ≠ i) : upd f i v j = f j := by simp [upd, h]
theorem tot_upd_ge (f : Nat → Int) (i : Nat) (v : Int) : ∀ n, n ≤ i → tot (upd f i v) n = tot f n
  | 0, _ => by rw [tot_zero, tot_zero]
  | n + 1, h => by rw [tot_succ, tot_succ, tot_upd_ge f i v n (by omega), upd_other _ _ (by omega)]
theorem tot_upd (f : Nat → Int) (i : Nat) (v : Int) : ∀ n, i < n → tot (upd f i v) n = tot f n + (v - f i) * (B ^ i : Nat)
  | n + 1, h => by
    rw [tot_succ, tot_succ]
    by_cases e : i = n
    · subst e
      rw [tot_upd_ge f i v i (Nat.le_refl _), upd_same, Int.sub_mul]
      omega
    · rw [tot_upd f i v n (by omega), upd_other _ _ (by omega)]
      omega
theorem tot_nonneg {f : Nat → Int} (h : ∀ j, 0 ≤ f j) : ∀ n, 0 ≤ tot f n
  | 0 => by rw [tot_zero]; omega
  | n + 1 => by
    rw [tot_succ]
    have h1 := tot_nonneg h n
    have h2 : 0 ≤ f n * ((B ^ n : Nat) : Int) := Int.mul_nonneg (h n) (by omega)
    omega
theorem tot_lt {f : Nat → Int} (h0 : ∀ j, 0 ≤ f j) (h1 : ∀ j, f j < (B : Int)) : ∀ n, tot f n < ((B ^ n : Nat) : Int)
  | 0 => by rw [tot_zero]; simp
  | n + 1 => by
    rw [tot_succ, Nat.pow_succ]
    have hn := tot_lt h0 h1 n
    have h2 : f n * ((B ^ n : Nat) : Int) ≤ ((B : Int) - 1) * ((B ^ n : Nat) : Int) := Int.mul_le_mul_of_nonneg_right (by have := h1 n; omega) (by omega)
    rw [Int.sub_mul, Int.one_mul] at h2
    rw [Int.natCast_mul, Int.mul_comm ((B ^ n : Nat) : Int)]
    omega
/-- The words of a sum of words are they. -/
theorem wd_tot {f : Nat → Int} (h0 : ∀ j, 0 ≤ f j) (h1 : ∀ j, f j < (B : Int)) : ∀ n j, j < n → (wd (tot f n).toNat j : Int) = f j
  | n + 1, j, hj => by
    have t0 := tot_nonneg h0 n
    have t1 := tot_lt h0 h1 n
    obtain ⟨a, ha⟩ := Int.eq_ofNat_of_zero_le t0
    obtain ⟨c, hc⟩ := Int.eq_ofNat_of_zero_le (h0 n)
    have e : (tot f (n + 1)).toNat = a + c * B ^ n := by
      rw [tot_succ, ha, hc, ← Int.natCast_mul, ← Int.natCast_add, Int.toNat_natCast]
    have hac : a < B ^ n := by omega
    have hcB : c < B := by have := h1 n; omega
    rw [e]
    by_cases ej : j = n
    · subst ej
      unfold wd
      rw [Nat.add_mul_div_right _ _ (Bp_pos _), Nat.div_eq_of_lt hac, Nat.zero_add, Nat.mod_eq_of_lt hcB, hc]
    · have ih := wd_tot h0 h1 n j (by omega)
      rw [ha, Int.toNat_natCast] at ih
      rw [← ih]
      congr 1
      unfold wd
      have e2 : B ^ n = B ^ j * (B * B ^ (n - j - 1)) := by
        rw [← Nat.mul_assoc, ← Nat.pow_succ, ← Nat.pow_add]; congr 1; omega
      rw [e2, show c * (B ^ j * (B * B ^ (n - j - 1))) = B ^ j * (B * (c * B ^ (n - j - 1))) by
        simp only [Nat.mul_left_comm], Nat.add_mul_div_left _ _ (Bp_pos _), Nat.add_mul_mod_self_left]
/-- A number is what its words come to. -/
theorem tot_wd (v : Nat) : ∀ n, tot (fun j => (wd v j : Int)) n = ((v % B ^ n : Nat) : Int)
  | 0 => by rw [tot_zero, Nat.pow_zero, Nat.mod_one]; rfl
  | n + 1 => by rw [tot_succ, tot_wd v n, mod_succ, Int.natCast_add, Int.natCast_mul]

/-! ### One round of carry -/
/-- Go's quotient and its correction are the quotient rounded down. -/
theorem carry_floor (s : Int) : let q := s.tdiv 1000000000; let r := s - q * 1000000000;
    (r < 0 → 0 ≤ r + 1000000000 ∧ r + 1000000000 < 1000000000 ∧ (q - 1) * 1000000000 + (r + 1000000000) = s) ∧ (¬ r < 0 → r < 1000000000 ∧ q * 1000000000 + r = s) := by
  intro q r
  have h1 : s = 1000000000 * q + s.tmod 1000000000 := (Int.mul_tdiv_add_tmod s 1000000000).symm
  have h2 : s.tmod 1000000000 < 1000000000 := Int.tmod_lt_of_pos s (by decide)
  have h3 : -1000000000 < s.tmod 1000000000 := by
    have := Int.lt_tmod_of_pos s (show (0 : Int) < 1000000000 by decide)
    omega
  constructor
  · intro h; omega
  · intro h; omega

/-! ### carry's loop: what holds at each round's head -/
/-- f: the words; n: how many are in use; i: the round. -/
structure CInv (X y : Nat) (k : Int) (s i : Nat) (rest : Int) (f : Nat → Int) (n : Nat) : Prop where
  lo : ∀ j, 0 ≤ f j
  hi : ∀ j, f j < (B : Int)
  top : ∀ j, n ≤ j → f j = 0
  le : n ≤ 232
  eq : tot f 232 + rest * (B ^ (i + s) : Nat) = X + k * (y % B ^ i : Nat) * (B ^ s : Nat)
  r0 : -(B : Int) ≤ rest
  r1 : rest ≤ (B : Int)

theorem tot_top {f : Nat → Int} {n : Nat} (h : ∀ j, n ≤ j → f j = 0) : ∀ m, n ≤ m → tot f m = tot f n
  | 0, hm => by rw [show n = 0 by omega]
  | m + 1, hm => by
    by_cases e : n = m + 1
    · rw [e]
    · rw [tot_succ, h m (by omega), tot_top h m (by omega)]; omega
theorem wd_lo (v j : Nat) : (0 : Int) ≤ (wd v j : Int) := by omega
theorem wd_hi (v j : Nat) : (wd v j : Int) < (B : Int) := by have := wd_lt v j; omega

theorem CInv.start {X y : Nat} (k : Int) (s : Nat) (hX : nw X ≤ 232) : CInv X y k s 0 0 (fun j => (wd X j : Int)) (nw X) where
  lo := wd_lo X
  hi := wd_hi X
  top := fun j hj => by rw [wd_zero_of hj]; rfl
  le := hX
  eq := by
    rw [tot_wd, mod_nw X 232 hX, Nat.pow_zero, Nat.mod_one]
    simp
  r0 := by rw [B_eq]; decide
  r1 := by rw [B_eq]; decide

/-- In the array: as long as words are left, or a carry. -/
theorem CInv.room {X y : Nat} {k : Int} {s i : Nat} {rest : Int} {f : Nat → Int} {n : Nat} (h : CInv X y k s i rest f n) (hy : nw y + s ≤ 232)
    (h0 : 0 ≤ (X : Int) + k * y * (B ^ s : Nat)) (h1 : (X : Int) + k * y * (B ^ s : Nat) < (B ^ 232 : Nat)) (hgo : i < nw y ∨ rest ≠ 0) : i + s < 232 := by
  apply Nat.lt_of_not_le
  intro hle
  have hi : nw y ≤ i := by omega
  have hr : rest ≠ 0 := by omega
  have e := h.eq
  rw [mod_nw y i hi] at e
  have t0 := tot_nonneg h.lo 232
  have t1 := tot_lt h.lo h.hi 232
  have hp : ((B ^ 232 : Nat) : Int) ≤ ((B ^ (i + s) : Nat) : Int) := by
    have := Nat.pow_le_pow_right B_pos hle
    exact Int.ofNat_le.2 this
  generalize ((B ^ (i + s) : Nat) : Int) = p at *
  generalize ((B ^ 232 : Nat) : Int) = p2 at *
  rcases Int.lt_or_gt_of_ne hr with hneg | hpos
  · have : rest * p ≤ -1 * p := Int.mul_le_mul_of_nonneg_right (by omega) (by omega)
    omega
  · have : 1 * p ≤ rest * p := Int.mul_le_mul_of_nonneg_right (by omega) (by omega)
    omega

/-- One round: the sum is q times the base, and r. -/
theorem CInv.step {X y : Nat} {k : Int} {s i : Nat} {rest : Int} {f : Nat → Int} {n : Nat} (h : CInv X y k s i rest f n) (hk0 : -(B : Int) < k) (hk1 : k < (B : Int)) (hr : i + s < 232)
    {q r : Int} (hq : q * (B : Int) + r = f (i + s) + rest + k * (wd y i : Nat)) (hr0 : 0 ≤ r) (hr1 : r < (B : Int)) :
    CInv X y k s (i + 1) q (upd f (i + s) r) (max n (i + s + 1)) where
  lo := fun j => by
    by_cases e : j = i + s
    · rw [e, upd_same]; exact hr0
    · rw [upd_other _ _ e]; exact h.lo j
  hi := fun j => by
    by_cases e : j = i + s
    · rw [e, upd_same]; exact hr1
    · rw [upd_other _ _ e]; exact h.hi j
  top := fun j hj => by rw [upd_other _ _ (by omega)]; exact h.top j (by omega)
  le := by have := h.le; omega
  eq := by
    have hq' : q * (B : Int) = f (i + s) + rest + k * (wd y i : Nat) - r := by omega
    rw [tot_upd f (i + s) r 232 hr, show i + 1 + s = i + s + 1 by omega, Nat.pow_succ, mod_succ]
    have e := h.eq
    have hp : ((B ^ (i + s) * B : Nat) : Int) = (B ^ (i + s) : Nat) * (B : Int) := Int.natCast_mul _ _
    have hs : ((B ^ (i + s) : Nat) : Int) = (B ^ i : Nat) * (B ^ s : Nat) := by rw [Nat.pow_add, Int.natCast_mul]
    rw [hp]
    have h2 : q * ((B ^ (i + s) : Nat) * (B : Int)) = (f (i + s) + rest + k * (wd y i : Nat) - r) * (B ^ (i + s) : Nat) := by
      rw [← hq', Int.mul_assoc, Int.mul_comm (B : Int)]
    rw [h2, Int.natCast_add, Int.natCast_mul]
    have h3 : k * ((y % B ^ i : Nat) + (wd y i : Nat) * (B ^ i : Nat)) * (B ^ s : Nat) = k * (y % B ^ i : Nat) * (B ^ s : Nat) + k * (wd y i : Nat) * (B ^ (i + s) : Nat) := by
      rw [hs, Int.mul_add, Int.add_mul, ← Int.mul_assoc k, Int.mul_assoc (k * (wd y i : Nat))]
    rw [h3, ← Int.add_assoc, ← e]
    simp only [Int.sub_mul, Int.add_mul]
    clear h2 h3 e hp hs hq hq' hr0 hr1 hk0 hk1 hr h
    generalize r * ((B ^ (i + s) : Nat) : Int) = a1
    generalize f (i + s) * ((B ^ (i + s) : Nat) : Int) = a2
    generalize rest * ((B ^ (i + s) : Nat) : Int) = a3
    generalize k * ((wd y i : Nat) : Int) * ((B ^ (i + s) : Nat) : Int) = a4
    omega
  r0 := by
    have a := h.lo (i + s); have b := h.hi (i + s); have c := h.r0; have d := h.r1
    have w := wd_lt y i
    have m1 : -((B : Int) - 1) * ((B : Int) - 1) ≤ k * (wd y i : Nat) := by
      have x1 : -((B : Int) - 1) * (wd y i : Nat) ≤ k * (wd y i : Nat) := Int.mul_le_mul_of_nonneg_right (by omega) (by omega)
      have x2 : ((B : Int) - 1) * (wd y i : Nat) ≤ ((B : Int) - 1) * ((B : Int) - 1) := Int.mul_le_mul_of_nonneg_left (by omega) (by rw [B_eq]; decide)
      rw [Int.neg_mul] at x1 ⊢
      omega
    rw [B_eq] at *
    simp at *
    omega
  r1 := by
    have a := h.lo (i + s); have b := h.hi (i + s); have c := h.r0; have d := h.r1
    have w := wd_lt y i
    have m1 : k * (wd y i : Nat) ≤ ((B : Int) - 1) * ((B : Int) - 1) := by
      have x1 : k * (wd y i : Nat) ≤ ((B : Int) - 1) * (wd y i : Nat) := Int.mul_le_mul_of_nonneg_right (by omega) (by omega)
      have x2 : ((B : Int) - 1) * (wd y i : Nat) ≤ ((B : Int) - 1) * ((B : Int) - 1) := Int.mul_le_mul_of_nonneg_left (by omega) (by rw [B_eq]; decide)
      omega
    rw [B_eq] at *
    simp at *
    omega

/-- Behind the last round. -/
theorem CInv.done {X y : Nat} {k : Int} {s i : Nat} {f : Nat → Int} {n : Nat} (h : CInv X y k s i 0 f n) (hi : nw y ≤ i) {V : Nat} (hV : (V : Int) = X + k * y * (B ^ s : Nat)) :
    (∀ j, j < 232 → f j = (wd V j : Int)) ∧ (∀ j, n ≤ j → wd V j = 0) ∧ V < B ^ 232 := by
  have e := h.eq
  rw [mod_nw y i hi, Int.zero_mul, Int.add_zero, ← hV] at e
  have ht : (tot f 232).toNat = V := by rw [e]; simp
  have t1 := tot_lt h.lo h.hi 232
  have hVB : V < B ^ 232 := by rw [e] at t1; exact Int.ofNat_lt.1 t1
  have hw : ∀ j, j < 232 → f j = (wd V j : Int) := fun j hj => by rw [← wd_tot h.lo h.hi 232 j hj, ht]
  refine ⟨hw, fun j hj => ?_, hVB⟩
  by_cases hj2 : j < 232
  · have h1 := hw j hj2
    rw [h.top j hj] at h1
    omega
  · exact wd_zero_of (Nat.le_trans ((nw_le_iff V 232).2 hVB) (by omega))

/-- Leading words of 0 left out, the number of words is right. -/
theorem nw_eq {V n : Nat} (h0 : ∀ j, n ≤ j → wd V j = 0) (h1 : n ≠ 0 → wd V (n - 1) ≠ 0) : n = nw V := by
  have a : nw V ≤ n := by
    apply Nat.le_of_not_lt
    intro hl
    have hne : V ≠ 0 := fun e => by rw [e, nw_zero] at hl; omega
    exact wd_top hne (h0 (nw V - 1) (by omega))
  have b : n ≤ nw V := by
    apply Nat.le_of_not_lt
    intro hl
    exact h1 (by omega) (wd_zero_of (by omega))
  omega

/-! ### Division, word by word -/
theorem two_words (x n : Nat) (hn : 1 ≤ n) : (wd x n * B + wd x (n - 1)) * B ^ (n - 1) ≤ x := by
  have e : n = n - 1 + 1 := by omega
  have h1 := div_succ x (n - 1)
  have h2 := div_succ x n
  rw [← e] at h1
  have h3 : wd x n * B ≤ x / B ^ n * B := Nat.mul_le_mul_right _ (by omega)
  have h4 : wd x n * B + wd x (n - 1) ≤ x / B ^ (n - 1) := by omega
  exact Nat.le_trans (Nat.mul_le_mul_right _ h4) (Nat.div_mul_le_self _ _)
/-- An estimate of a quotient is never too great. -/
theorem est_le {x y k : Nat} (hy : y ≠ 0) (hxy : y ≤ x) (hk : k * (wd y (nw y - 1) + if 1 < nw y then 1 else 0) ≤ wd x (nw y) * B + wd x (nw y - 1) ∨ k = 1) : k * y ≤ x := by
  rcases hk with hk | hk
  · have hn : 1 ≤ nw y := by have := nw_ne_zero hy; omega
    have h1 := two_words x (nw y) hn
    have h2 : y ≤ (wd y (nw y - 1) + if 1 < nw y then 1 else 0) * B ^ (nw y - 1) := by
      have e : nw y = nw y - 1 + 1 := by omega
      have hd := div_succ y (nw y - 1)
      rw [← e, Nat.div_eq_of_lt (lt_pow_nw y)] at hd
      have hm := Nat.div_add_mod y (B ^ (nw y - 1))
      rw [hd] at hm
      have hl := Nat.mod_lt y (Bp_pos (nw y - 1))
      by_cases h : 1 < nw y
      · rw [if_pos h, Nat.add_mul, Nat.one_mul]
        rw [Nat.zero_mul, Nat.zero_add, Nat.mul_comm] at hm
        omega
      · rw [if_neg h, Nat.add_zero]
        rw [show nw y - 1 = 0 by omega] at hm hl ⊢
        rw [Nat.pow_zero] at hm hl ⊢
        rw [Nat.zero_mul, Nat.zero_add] at hm
        omega
    have h3 := Nat.mul_le_mul_left k h2
    rw [← Nat.mul_assoc] at h3
    have h4 := Nat.mul_le_mul_right (B ^ (nw y - 1)) hk
    exact Nat.le_trans h3 (Nat.le_trans h4 h1)
  · rw [hk]; omega
theorem div_word (x y i : Nat) : (x / B ^ (i + 1) % y * B + wd x i) % y = x / B ^ i % y ∧ (y ≠ 0 → (x / B ^ (i + 1) % y * B + wd x i) / y = wd (x / y) i) := by
  have e := div_succ x i
  have hm := Nat.div_add_mod (x / B ^ (i + 1)) y
  generalize hQ : x / B ^ (i + 1) / y = Q at hm
  generalize hr : x / B ^ (i + 1) % y = r at hm ⊢
  have e2 : x / B ^ i = y * (Q * B) + (r * B + wd x i) := by
    rw [e, ← hm, Nat.add_mul, ← Nat.mul_assoc, Nat.add_assoc]
  constructor
  · rw [e2, Nat.mul_add_mod]
  · intro hy
    have h3 : x / B ^ i / y = Q * B + (r * B + wd x i) / y := by
      rw [e2, Nat.mul_add_div (by omega)]
    have h4 : wd (x / y) i = (Q * B + (r * B + wd x i) / y) % B := by
      unfold wd
      rw [Nat.div_div_eq_div_mul, Nat.mul_comm y, ← Nat.div_div_eq_div_mul, h3]
      rfl
    rw [h4, Nat.mul_comm Q, Nat.mul_add_mod, Nat.mod_eq_of_lt]
    apply (Nat.div_lt_iff_lt_mul (by omega)).2
    have h5 : r < y := by rw [← hr]; exact Nat.mod_lt _ (by omega)
    have h6 := wd_lt x i
    have h7 : (r + 1) * B ≤ y * B := Nat.mul_le_mul_right _ h5
    rw [Nat.add_mul, Nat.one_mul] at h7
    rw [Nat.mul_comm B]
    omega
/-- A word put in at the low end. -/
theorem nw_push (r w : Nat) (hw : w < B) : nw (r * B + w) ≤ nw r + 1 := by
  apply (nw_le_iff _ _).2
  have := lt_pow_nw r
  rw [Nat.pow_succ]
  have h2 : (r + 1) * B ≤ B ^ nw r * B := Nat.mul_le_mul_right _ this
  rw [Nat.add_mul, Nat.one_mul] at h2
  omega
theorem wd_push_zero (r w : Nat) (hw : w < B) : wd (r * B + w) 0 = w := by
  unfold wd
  rw [Nat.pow_zero, Nat.div_one, Nat.mul_comm, Nat.mul_add_mod, Nat.mod_eq_of_lt hw]
theorem wd_push_succ (r w j : Nat) (hw : w < B) : wd (r * B + w) (j + 1) = wd r j := by
  unfold wd
  rw [Nat.pow_succ, Nat.mul_comm (B ^ j), ← Nat.div_div_eq_div_mul, Nat.mul_comm r, Nat.mul_add_div B_pos, Nat.div_eq_of_lt hw, Nat.add_zero]
theorem mul_lt_pow (x y : Nat) : x * y < B ^ (nw x + nw y) := by
  rw [Nat.pow_add]
  have h1 := lt_pow_nw x
  have h2 := lt_pow_nw y
  exact Nat.lt_of_le_of_lt (Nat.mul_le_mul_right y (Nat.le_of_lt h1)) (Nat.mul_lt_mul_of_pos_left h2 (Bp_pos _))
theorem nw_mul_le (x y : Nat) : nw (x * y) ≤ nw x + nw y := (nw_le_iff _ _).2 (mul_lt_pow x y)
end Go.Proofs.YtlmdpamehhcblaaGreatDoorV
/- Plain laws: Atoi of digits; the words of a numeral, nine digits at a time. No program in sight. -/
namespace Go.Proofs.YtlmdpamehhcblaaGreatDoorD
open Go.Lib

theorem parseUint10_eq : ∀ (l : List UInt8) (acc : Nat), l.all isDig = true → (acc + 1) * 10 ^ l.length ≤ 1000000000000000000 → parseUint10 acc l = .ok (valF acc l)
  | [], acc, _, _ => by rw [valF_nil]; rfl
  | c :: r, acc, h, hb => by
    simp only [List.all_cons, Bool.and_eq_true] at h
    have hc := (isDig_iff c).1 h.1
    rw [List.length_cons, Nat.pow_succ] at hb
    have hp : 1 ≤ 10 ^ r.length := Nat.one_le_pow _ _ (by decide)
    have h1 : (acc + 1) * 10 * 10 ^ r.length ≤ 1000000000000000000 := by rw [Nat.mul_assoc, Nat.mul_comm 10]; exact hb
    have h2 : (acc + 1) * 10 * 1 ≤ (acc + 1) * 10 * 10 ^ r.length := Nat.mul_le_mul_left _ hp
    unfold parseUint10
    rw [if_pos hc, if_neg (by omega), if_neg (by omega), valF_cons, Nat.mul_comm 10 acc]
    refine parseUint10_eq r _ h.2 (Nat.le_trans (Nat.mul_le_mul_right _ ?_) h1)
    omega
theorem atoi_digits {l : List UInt8} (h0 : l ≠ []) (h : l.all isDig = true) (hb : l.length ≤ 18) : atoiAll l = .ok (val l : Int) := by
  cases l with
  | nil => exact absurd rfl h0
  | cons c r =>
    have hc : 48 ≤ c.toNat ∧ c.toNat ≤ 57 := by
      simp only [List.all_cons, Bool.and_eq_true] at h; exact (isDig_iff c).1 h.1
    have hp : (0 + 1) * 10 ^ (c :: r).length ≤ 1000000000000000000 := by
      have := Nat.pow_le_pow_right (n := 10) (by decide) hb
      simpa using this
    have hv : val (c :: r) < 1000000000000000000 := by
      have := val_lt h
      omega
    have e := parseUint10_eq (c :: r) 0 h hp
    unfold atoiAll
    simp only []
    rw [if_neg (by omega)]
    unfold parseMag
    rw [if_neg h0, e]
    show (if ¬ c.toNat = 45 ∧ 9223372036854775808 ≤ val (c :: r) then NumEnd.range else if c.toNat = 45 ∧ 9223372036854775808 < val (c :: r) then NumEnd.range else .ok (if c.toNat = 45 then -(val (c :: r) : Int) else (val (c :: r) : Int))) = .ok (val (c :: r) : Int)
    rw [if_neg (by omega), if_neg (by omega), if_neg (by omega)]
theorem atoi_minus_digits {l : List UInt8} (h0 : l ≠ []) (h : l.all isDig = true) (hb : l.length ≤ 18) : atoiAll (45 :: l) = .ok (-(val l : Int)) := by
  have hp : (0 + 1) * 10 ^ l.length ≤ 1000000000000000000 := by
    have := Nat.pow_le_pow_right (n := 10) (by decide) hb
    simpa using this
  have hv : val l < 1000000000000000000 := by
    have := val_lt h
    omega
  have e := parseUint10_eq l 0 h hp
  unfold atoiAll
  simp only []
  rw [if_pos (by right; decide)]
  unfold parseMag
  rw [if_neg h0, e]
  show (if ¬ (45 : UInt8).toNat = 45 ∧ 9223372036854775808 ≤ val l then NumEnd.range else if (45 : UInt8).toNat = 45 ∧ 9223372036854775808 < val l then NumEnd.range else .ok (if (45 : UInt8).toNat = 45 then -(val l : Int) else (val l : Int))) = .ok (-(val l : Int))
  have h45 : (45 : UInt8).toNat = 45 := by decide
  rw [if_neg (by omega), if_neg (by omega), if_pos h45]
theorem atoi_itoa {n : Int} (h0 : -1000000000000000000 < n) (h1 : n < 1000000000000000000) : atoiAll (itoa n) = .ok n := by
  have hl : (decDigits n.natAbs).length ≤ 18 := by
    rw [decDigits_len]; exact (nDigits_le_iff _ _ (by decide)).2 (by simp; omega)
  by_cases hn : n < 0
  · unfold itoa; rw [if_pos hn, atoi_minus_digits (decDigits_ne _) (decDigits_all _) hl, val_decDigits]; congr 1; omega
  · unfold itoa; rw [if_neg hn, show n.toNat = n.natAbs by omega, atoi_digits (decDigits_ne _) (decDigits_all _) hl, val_decDigits]; congr 1; omega

/-! ### Nine digits at a time -/
open YtlmdpamehhcblaaGreatDoorV (B wd) in
/-- D: the digits of v; what stands ahead of the last 9 * i is the number without its last i words. -/
theorem val_take (D : List UInt8) (h : D.all isDig = true) (i : Nat) : val (D.take (D.length - 9 * i)) = val D / B ^ i := by
  by_cases hi : 9 * i ≤ D.length
  · have e := val_append (D.take (D.length - 9 * i)) (D.drop (D.length - 9 * i))
    rw [List.take_append_drop] at e
    have hl : (D.drop (D.length - 9 * i)).length = 9 * i := by rw [List.length_drop]; omega
    have hd : (D.drop (D.length - 9 * i)).all isDig = true := by
      rw [List.all_eq_true] at *; intro x hx; exact h x (List.mem_of_mem_drop hx)
    have hlt := val_lt hd
    rw [hl] at e hlt
    have hB : B ^ i = 10 ^ (9 * i) := by rw [Nat.pow_mul]; rfl
    rw [hB, e, Nat.mul_comm (val (List.take (D.length - 9 * i) D)), Nat.mul_add_div (Nat.pow_pos (by decide)), Nat.div_eq_of_lt hlt, Nat.add_zero]
  · rw [show D.length - 9 * i = 0 by omega, List.take_zero, val_nil]
    have hlt := val_lt h
    have hB : B ^ i = 10 ^ (9 * i) := by rw [Nat.pow_mul]; rfl
    have := Nat.pow_le_pow_right (n := 10) (by decide) (show D.length ≤ 9 * i by omega)
    rw [hB, Nat.div_eq_of_lt (by omega)]
open YtlmdpamehhcblaaGreatDoorV (B wd) in
theorem val_chunk (D : List UInt8) (h : D.all isDig = true) (i : Nat) : val ((D.take (D.length - 9 * i)).drop (D.length - 9 * i - 9)) = wd (val D) i := by
  have e := val_append ((D.take (D.length - 9 * i)).take (D.length - 9 * i - 9)) ((D.take (D.length - 9 * i)).drop (D.length - 9 * i - 9))
  rw [List.take_append_drop, val_take D h i, List.take_take, Nat.min_eq_left (by omega), show D.length - 9 * i - 9 = D.length - 9 * (i + 1) by omega, val_take D h (i + 1), YtlmdpamehhcblaaGreatDoorV.div_succ] at e
  rw [show D.length - 9 * i - 9 = D.length - 9 * (i + 1) by omega]
  generalize hC : (D.take (D.length - 9 * i)).drop (D.length - 9 * (i + 1)) = C at *
  have hl : C.length = min 9 (D.length - 9 * i) := by rw [← hC, List.length_drop, List.length_take]; omega
  by_cases h9 : 9 ≤ D.length - 9 * i
  · rw [hl, Nat.min_eq_left h9] at e
    have : B = 10 ^ 9 := rfl
    rw [this] at e
    omega
  · have h0 : val D / B ^ (i + 1) = 0 := by
      rw [← val_take D h (i + 1), show D.length - 9 * (i + 1) = 0 by omega, List.take_zero, val_nil]
    rw [h0] at e; omega
/-! ### Order -/
theorem compare_val : ∀ (l m : List UInt8), l.all isDig = true → m.all isDig = true → l.length = m.length → compareBytes l m = ((val l : Int) - val m).sign
  | [], [], _, _, _ => by rw [val_nil]; rfl
  | [], _ :: _, _, _, h => by simp at h
  | _ :: _, [], _, _, h => by simp at h
  | c :: l, d :: m, hl, hm, h => by
    simp only [List.all_cons, Bool.and_eq_true] at hl hm
    have hlen : l.length = m.length := by simpa using h
    have ih := compare_val l m hl.2 hm.2 hlen
    have a := val_lt hl.2
    have b := val_lt hm.2
    have hc := (isDig_iff c).1 hl.1
    have hd := (isDig_iff d).1 hm.1
    rw [val_cons, val_cons, hlen]
    rw [hlen] at a
    unfold compareBytes
    by_cases h1 : c < d
    · rw [if_pos h1]
      have h2 : c.toNat < d.toNat := UInt8.lt_iff_toNat_lt.1 h1
      have h3 : (c.toNat - 48 + 1) * 10 ^ m.length ≤ (d.toNat - 48) * 10 ^ m.length := Nat.mul_le_mul_right _ (by omega)
      rw [Nat.add_mul, Nat.one_mul] at h3
      rw [Int.sign_eq_neg_one_of_neg (by omega)]
    · rw [if_neg h1]
      by_cases h2 : d < c
      · rw [if_pos h2]
        have h4 : d.toNat < c.toNat := UInt8.lt_iff_toNat_lt.1 h2
        have h3 : (d.toNat - 48 + 1) * 10 ^ m.length ≤ (c.toNat - 48) * 10 ^ m.length := Nat.mul_le_mul_right _ (by omega)
        rw [Nat.add_mul, Nat.one_mul] at h3
        rw [Int.sign_eq_one_of_pos (by omega)]
      · rw [if_neg h2, ih]
        have e : c.toNat = d.toNat := by
          have x1 : ¬ c.toNat < d.toNat := fun x => h1 (UInt8.lt_iff_toNat_lt.2 x)
          have x2 : ¬ d.toNat < c.toNat := fun x => h2 (UInt8.lt_iff_toNat_lt.2 x)
          omega
        rw [e]
        congr 1
        omega
theorem lt_of_digits {u v : Nat} (h : (decDigits u).length < (decDigits v).length) : u < v := by
  rw [decDigits_len, decDigits_len] at h
  apply Nat.lt_of_not_le
  intro hl
  have := nDigits_mono hl
  omega
theorem compare_digits (u v : Nat) (h : (decDigits u).length = (decDigits v).length) : compareBytes (decDigits u) (decDigits v) = ((u : Int) - v).sign := by
  rw [compare_val _ _ (decDigits_all u) (decDigits_all v) h, val_decDigits, val_decDigits]
end Go.Proofs.YtlmdpamehhcblaaGreatDoorD
/- Plain laws: a text cut at the first place of a byte. No program in sight. -/
namespace Go.Proofs.YtlmdpamehhcblaaGreatDoorD
open Go.Lib

/-- What stands ahead of the first c, and behind it; whether it is there. -/
def cutc (c : UInt8) (l : List UInt8) : List UInt8 × List UInt8 × Bool :=
  if c ∈ l then (l.takeWhile (· != c), (l.dropWhile (· != c)).tail, true) else (l, [], false)
theorem index_cons (b c : UInt8) (l : List UInt8) : index (b :: l) [c] = if b = c then 0 else if index l [c] = -1 then -1 else index l [c] + 1 := by
  rw [index]
  by_cases h : b = c
  · subst h; simp [List.isPrefixOf]
  · have h2 : (c == b) = false := by simp; exact fun e => h e.symm
    simp [List.isPrefixOf, h, h2]
theorem index_mem (c : UInt8) : ∀ l : List UInt8, (c ∈ l → 0 ≤ index l [c] ∧ l.take (index l [c]).toNat = l.takeWhile (· != c) ∧ l.drop ((index l [c]).toNat + 1) = (l.dropWhile (· != c)).tail) ∧ (c ∉ l → index l [c] = -1)
  | [] => ⟨fun h => by simp at h, fun _ => by simp [index]⟩
  | b :: l => by
    rw [index_cons]
    by_cases h : b = c
    · subst h
      simp
    · rw [if_neg h]
      have hne : (b != c) = true := by simpa using h
      constructor
      · intro hm
        have hl : c ∈ l := by
          rcases List.mem_cons.1 hm with e | e
          · exact absurd e.symm h
          · exact e
        obtain ⟨h0, h1, h2⟩ := (index_mem c l).1 hl
        rw [if_neg (by omega)]
        obtain ⟨k, hk⟩ := Int.eq_ofNat_of_zero_le h0
        rw [hk] at h1 h2 ⊢
        rw [show ((k : Int) + 1).toNat = k + 1 by omega]
        rw [Int.toNat_natCast] at h1 h2
        rw [List.takeWhile_cons_of_pos (p := (· != c)) hne, List.dropWhile_cons_of_pos (p := (· != c)) hne, ← h1, ← h2]
        exact ⟨by omega, rfl, rfl⟩
      · intro hm
        have hl : c ∉ l := fun e => hm (List.mem_cons_of_mem _ e)
        rw [if_pos ((index_mem c l).2 hl)]
theorem cut_eq (c : UInt8) (l : List UInt8) : cut l [c] = cutc c l := by
  unfold cut cutc
  by_cases h : c ∈ l
  · obtain ⟨h0, h1, h2⟩ := (index_mem c l).1 h
    rw [if_pos h0, if_pos h, h1]
    show (_, l.drop ((index l [c]).toNat + 1), true) = _
    rw [h2]
  · rw [(index_mem c l).2 h, if_neg (by decide), if_neg h]
theorem cutc_none {c : UInt8} {l : List UInt8} (h : c ∉ l) : cutc c l = (l, [], false) := by unfold cutc; rw [if_neg h]
theorem cutc_some {c : UInt8} {l m : List UInt8} (h : c ∉ l) : cutc c (l ++ c :: m) = (l, m, true) := by
  unfold cutc
  rw [if_pos (by simp)]
  have h1 : ∀ b ∈ l, (b != c) = true := fun b hb => by simp; intro e; rw [e] at hb; exact h hb
  rw [List.takeWhile_append_of_pos h1, List.dropWhile_append_of_pos h1]
  simp
theorem cutc_rtext (q : Rat) : cutc 47 (rtext q) = if q.den = 1 then (itoa q.num, [], false) else (itoa q.num, decDigits q.den, true) := by
  unfold rtext
  by_cases h : q.den = 1
  · rw [if_pos h, if_pos h, cutc_none (itoa_no47 _)]
  · rw [if_neg h, if_neg h, cutc_some (itoa_no47 _)]
theorem cutc_spec (c : UInt8) (l : List UInt8) : (c ∈ l ∧ (cutc c l).2.2 = true ∧ l = (cutc c l).1 ++ c :: (cutc c l).2.1 ∧ c ∉ (cutc c l).1) ∨ (c ∉ l ∧ cutc c l = (l, [], false)) := by
  by_cases h : c ∈ l
  · left
    unfold cutc
    rw [if_pos h]
    refine ⟨h, rfl, ?_, ?_⟩
    · have e := List.takeWhile_append_dropWhile (p := (· != c)) (l := l)
      cases hd : l.dropWhile (· != c) with
      | nil =>
        rw [hd, List.append_nil] at e
        rw [← e] at h
        have := List.all_eq_true.1 (List.all_takeWhile (p := (· != c)) (l := l)) _ h
        simp at this
      | cons b r =>
        have hb : b = c := by
          have := List.head_dropWhile_not (p := (· != c)) (l := l) (by rw [hd]; simp)
          simp [hd] at this
          exact this
        rw [hd, hb] at e
        exact e.symm
    · intro hm
      have := List.all_eq_true.1 (List.all_takeWhile (p := (· != c)) (l := l)) _ hm
      simp at this
  · exact .inr ⟨h, cutc_none h⟩
end Go.Proofs.YtlmdpamehhcblaaGreatDoorD
/- Plain laws: rational numbers with parts so small that the parts of sums and products are within the limit. No program in sight. -/
namespace Go.Proofs.YtlmdpamehhcblaaGreatDoorD
open Go.Lib

def halfE : Nat := 500
theorem halfE_eq : halfE = 500 := rfl
def Half : Nat := 10 ^ halfE
theorem le_half {k : Nat} (h : k ≤ 500) : 10 ^ k ≤ Half := Nat.pow_le_pow_right (by decide) (by rw [halfE_eq]; exact h)
theorem half_mul2 {a b c d : Nat} (ha : a < Half) (hb : b < Half) (hc : c < Half) (hd : d < Half) : a * b + c * d < Lim := by
  have h1 : a * b ≤ Half * Half := Nat.mul_le_mul (Nat.le_of_lt ha) (Nat.le_of_lt hb)
  have h2 : c * d ≤ Half * Half := Nat.mul_le_mul (Nat.le_of_lt hc) (Nat.le_of_lt hd)
  have key : ∀ k, halfE = k → Half * Half < Lim ∧ Half * Half * 10 ≤ Lim := by
    intro k hk
    have hle : k + k + 1 ≤ 1024 := by rw [← hk, halfE_eq]; omega
    have e : Half = 10 ^ k := by unfold Half; rw [hk]
    have h5 := lim_le hle
    have h6 : 0 < 10 ^ k := Nat.pow_pos (by decide)
    rw [Nat.pow_succ, Nat.pow_add, ← e] at h5
    rw [← e] at h6
    have : 0 < Half * Half := Nat.mul_pos h6 h6
    omega
  have k1 := (key _ rfl).1
  have k2 := (key _ rfl).2
  omega
theorem half_mul {a b : Nat} (ha : a < Half) (hb : b < Half) : a * b < Lim := by
  have := half_mul2 ha hb ha hb; omega
theorem half_lim : Half ≤ Lim := lim_le (by rw [halfE_eq]; omega)
theorem lt_half_lim {a : Nat} (h : a < Half) : a < Lim := Nat.lt_of_lt_of_le h half_lim
/-- A rational number with small parts. -/
structure Q (q : Rat) : Prop where
  n : q.num.natAbs < Half
  d : q.den < Half
theorem Q.of {q : Rat} {k : Nat} (hk : k ≤ 500) (h : q.num.natAbs < 10 ^ k) (hd : q.den < 10 ^ k) : Q q :=
  ⟨Nat.lt_of_lt_of_le h (le_half hk), Nat.lt_of_lt_of_le hd (le_half hk)⟩
theorem Q.ln {q : Rat} (h : Q q) : q.num.natAbs < Lim := lt_half_lim h.n
theorem Q.ld {q : Rat} (h : Q q) : q.den < Lim := lt_half_lim h.d
theorem one_lim : 1 < Lim := by have := lim_big; omega
theorem abs_mul (a b : Int) : (a * b).natAbs = a.natAbs * b.natAbs := Int.natAbs_mul a b
theorem abs_add (a b : Int) : (a + b).natAbs ≤ a.natAbs + b.natAbs := Int.natAbs_add_le a b
theorem mkRat_self (q : Rat) : mkRat q.num q.den = q := Rat.mkRat_self q
/-- Which of two is greater, by their parts. -/
theorem cmp_eq (a b : Rat) : (a.num * b.den - b.num * a.den).sign = if a < b then -1 else if a = b then 0 else 1 := by
  have h1 : a < b ↔ a.num * b.den < b.num * a.den := Rat.lt_iff a b
  have h2 : a = b ↔ a.num * b.den = b.num * a.den := by
    constructor
    · rintro rfl; rfl
    · intro h
      have hle : a ≤ b := (Rat.le_iff a b).2 (Int.le_of_eq h)
      have hge : b ≤ a := (Rat.le_iff b a).2 (Int.le_of_eq h.symm)
      exact Rat.le_antisymm hle hge
  by_cases c1 : a < b
  · rw [if_pos c1]
    exact Int.sign_eq_neg_one_of_neg (by have := h1.1 c1; omega)
  · rw [if_neg c1]
    by_cases c2 : a = b
    · rw [if_pos c2, Int.sign_eq_zero_iff_zero]; have := h2.1 c2; omega
    · rw [if_neg c2]
      exact Int.sign_eq_one_of_pos (by
        have n1 : ¬ a.num * b.den < b.num * a.den := fun x => c1 (h1.2 x)
        have n2 : ¬ a.num * b.den = b.num * a.den := fun x => c2 (h2.2 x)
        omega)
end Go.Proofs.YtlmdpamehhcblaaGreatDoorD
