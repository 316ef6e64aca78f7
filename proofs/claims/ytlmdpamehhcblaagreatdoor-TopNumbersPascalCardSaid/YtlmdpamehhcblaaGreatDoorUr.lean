import Derived.Test.YtlmdpamehhcblaaGreatDoorUp
import Derived.Test.YtlmdpamehhcblaaGreatDoorUs
/- Plain laws: what is written in a unit is read back. No program in sight. -/
namespace Go.Proofs.YtlmdpamehhcblaaGreatDoorD
open Go.Lib

theorem cutc_no {c : UInt8} {l : List UInt8} (h : l.all isDig = true) (hc : isDig c = false) : cutc c l = (l, [], false) :=
  cutc_none (fun hm => by have := List.all_eq_true.1 h _ hm; rw [hc] at this; cases this)
theorem digs_of {l : List UInt8} (h0 : l ≠ []) (h : l.all isDig = true) : digs l = true := by
  unfold digs
  simp [h, h0]
/-- A number that is written with a stroke, or none. -/
theorem unum_rtext {q : Rat} (h0 : 0 ≤ q.num) (hn : q.num ≤ 999999) (hd : q.den ≤ 999999) : unum (rtext q) = .ok (q.num.natAbs, q.den) := by
  have en : itoa q.num = decDigits q.num.natAbs := by
    obtain ⟨k, hk⟩ := Int.eq_ofNat_of_zero_le h0
    rw [hk, itoa_nat]; rfl
  have no46 : (46 : UInt8) ∉ rtext q := by
    have hd46 : ∀ u : Nat, (46 : UInt8) ∉ decDigits u := fun u h => by
      have := List.all_eq_true.1 (decDigits_all u) _ h
      simp [isDig] at this
    unfold rtext
    rw [en]
    split
    · exact hd46 _
    · intro h
      rcases List.mem_append.1 h with h | h
      · exact hd46 _ h
      · rcases List.mem_cons.1 h with h | h
        · exact absurd h (by decide)
        · exact hd46 _ h
  have l6 : ∀ u : Nat, u ≤ 999999 → ¬ 6 < (decDigits u).length := fun u hu => by
    rw [decDigits_len]
    have := (nDigits_le_iff u 6 (by decide)).2 (by
      have : (10 : Nat) ^ 6 = 1000000 := by decide
      omega)
    omega
  have n1 := natural_decDigits q.num.natAbs
  have n2 := natural_decDigits q.den
  have v1 := val_decDigits q.num.natAbs
  have v2 := val_decDigits q.den
  have z := q.den_nz
  have k1 := l6 q.num.natAbs (by omega)
  have k2 := l6 q.den hd
  unfold unum
  rw [cutc_none no46, cutc_rtext, en]
  by_cases h1 : q.den = 1
  · rw [if_pos h1]
    simp only [Bool.false_eq_true, if_false]
    rw [n1]
    have n3 : natural [49] = true := by decide
    rw [n3]
    simp only [Bool.not_true, Bool.or_self, Bool.false_eq_true, if_false]
    rw [if_neg (by simp; omega), if_neg (by decide), v1, h1, show val [49] = 1 by rw [val_one]; rfl]
  · rw [if_neg h1]
    simp only [Bool.false_eq_true, if_false, if_true]
    rw [n1, n2]
    simp only [Bool.not_true, Bool.or_self, Bool.false_eq_true, if_false]
    rw [if_neg (by omega), if_neg ?_, v1, v2]
    intro h
    have : decDigits q.den = decDigits 0 := by rw [h, decDigits_small (by decide)]; rfl
    exact z (decDigits_inj this)
theorem upad_eq (n p : Nat) (hp : 1 ≤ p) : upad n p = decDigits (n / 10 ^ p) ++ padDigits p (n % 10 ^ p) := by
  have hpos : 0 < 10 ^ p := Nat.pow_pos (by decide)
  have hdm : n / 10 ^ p * 10 ^ p + n % 10 ^ p = n := by rw [Nat.mul_comm]; exact Nat.div_add_mod n (10 ^ p)
  have hlt : n % 10 ^ p < 10 ^ p := Nat.mod_lt _ hpos
  by_cases h : n / 10 ^ p = 0
  · have hn : n < 10 ^ p := by
      rcases Nat.lt_or_ge n (10 ^ p) with h2 | h2
      · exact h2
      · have := Nat.div_pos h2 hpos; omega
    have hl : (decDigits n).length ≤ p := by rw [decDigits_len]; exact (nDigits_le_iff n p hp).2 hn
    rw [h, Nat.mod_eq_of_lt hn, padDigits_eq p n hp hn, decDigits_small (by decide : 0 < 10)]
    unfold upad
    rw [if_pos hl, show p + 1 - (decDigits n).length = (p - (decDigits n).length) + 1 by omega, List.replicate_succ]
    rfl
  · have e := decDigits_chunk p (n / 10 ^ p) (n % 10 ^ p) h hlt
    rw [hdm] at e
    have hl : ¬ (decDigits n).length ≤ p := by
      rw [e, List.length_append, padDigits_length]
      have := List.length_pos_iff.2 (decDigits_ne (n / 10 ^ p))
      omega
    unfold upad
    rw [if_neg hl, e]
theorem trim_split (l : List UInt8) : ∃ k, l = trimRightS l [48] ++ List.replicate k 48 := by
  have key : ∀ m : List UInt8, ∃ k, m = List.replicate k 48 ++ m.dropWhile (fun x => [48].contains x) := by
    intro m
    induction m with
    | nil => exact ⟨0, rfl⟩
    | cons c m ih =>
      by_cases h : [48].contains c = true
      · obtain ⟨k, hk⟩ := ih
        have hc : c = 48 := by simpa using h
        refine ⟨k + 1, ?_⟩
        rw [List.dropWhile_cons_of_pos (p := fun x => [48].contains x) h, List.replicate_succ, List.cons_append, ← hk, hc]
      · exact ⟨0, by rw [List.dropWhile_cons_of_neg (p := fun x => [48].contains x) h]; rfl⟩
  obtain ⟨k, hk⟩ := key l.reverse
  refine ⟨k, ?_⟩
  unfold trimRightS
  have := congrArg List.reverse hk
  rw [List.reverse_reverse, List.reverse_append, List.reverse_replicate] at this
  exact this
theorem val_zeros' (k : Nat) : val (List.replicate k 48) = 0 := by
  induction k with
  | zero => exact val_nil
  | succ k ih => rw [List.replicate_succ, val_cons, ih]; simp
theorem padDigits_all (p u : Nat) (hp : 1 ≤ p) (hu : u < 10 ^ p) : (padDigits p u).all isDig = true := by
  rw [padDigits_eq p u hp hu, List.all_append, decDigits_all]
  simp only [Bool.and_true, List.all_eq_true]
  intro x hx
  rw [(List.mem_replicate.1 hx).2]; decide
theorem val_padDigits (p u : Nat) (hp : 1 ≤ p) (hu : u < 10 ^ p) : val (padDigits p u) = u := by
  rw [padDigits_eq p u hp hu, val_append, val_zeros', val_decDigits]; simp
theorem unum_digits {n : Nat} (hn : n ≤ 999999) : unum (decDigits n) = .ok (n, 1) := by
  have h := unum_rtext (q := ((n : Int) : Rat)) (by show 0 ≤ (n : Int); omega) (by show (n : Int) ≤ 999999; omega) (by show 1 ≤ 999999; omega)
  rw [rtext_ofInt, itoa_nat] at h
  exact h
theorem len6 {n : Nat} (hn : n ≤ 999999) : (decDigits n).length ≤ 6 := by
  rw [decDigits_len]
  exact (nDigits_le_iff n 6 (by decide)).2 (by
    have : (10 : Nat) ^ 6 = 1000000 := by decide
    omega)
/-- What is written with a point is read back. -/
theorem unum_pointed {n p : Nat} (hn : n ≤ 999999) (hp : p ≤ 6) : ∃ a d, unum (upointed n p) = .ok (a, d) ∧ a * 10 ^ p = n * d ∧ d ≠ 0 := by
  by_cases h0 : p = 0
  · subst h0
    have hu : upad n 0 = decDigits n := by
      unfold upad
      rw [if_neg (by have := List.length_pos_iff.2 (decDigits_ne n); omega)]
    have hr : urest n 0 = [] := by
      unfold urest
      rw [hu, Nat.sub_zero, List.drop_length]; rfl
    unfold upointed
    rw [if_pos hr, hu, Nat.sub_zero, List.take_length, unum_digits hn]
    exact ⟨n, 1, rfl, by simp, by decide⟩
  · have hp1 : 1 ≤ p := by omega
    have hpos : 0 < 10 ^ p := Nat.pow_pos (by decide)
    have hlt : n % 10 ^ p < 10 ^ p := Nat.mod_lt _ hpos
    have hdm : n / 10 ^ p * 10 ^ p + n % 10 ^ p = n := by rw [Nat.mul_comm]; exact Nat.div_add_mod n (10 ^ p)
    have hq : n / 10 ^ p ≤ 999999 := Nat.le_trans (Nat.div_le_self _ _) hn
    have e := upad_eq n p hp1
    have hl := padDigits_length p (n % 10 ^ p)
    have hall := padDigits_all p (n % 10 ^ p) hp1 hlt
    have hval := val_padDigits p (n % 10 ^ p) hp1 hlt
    have et : (upad n p).take ((upad n p).length - p) = decDigits (n / 10 ^ p) := by
      rw [e, List.length_append, hl, Nat.add_sub_cancel, List.take_left]
    have ed : urest n p = trimRightS (padDigits p (n % 10 ^ p)) [48] := by
      unfold urest
      rw [e, List.length_append, hl, Nat.add_sub_cancel, List.drop_left]
    obtain ⟨k, hk⟩ := trim_split (padDigits p (n % 10 ^ p))
    rw [← ed] at hk
    unfold upointed
    rw [et]
    generalize urest n p = r at *
    have hlr : r.length + k = p := by rw [← hl, hk, List.length_append, List.length_replicate]
    have hvr : val r * 10 ^ k = n % 10 ^ p := by
      rw [← hval, hk, val_append, val_zeros', List.length_replicate, Nat.add_zero]
    have hra : r.all isDig = true := by
      rw [hk, List.all_append, Bool.and_eq_true] at hall; exact hall.1
    by_cases hr : r = []
    · rw [if_pos hr, unum_digits hq]
      rw [hr, val_nil, Nat.zero_mul] at hvr
      exact ⟨n / 10 ^ p, 1, rfl, by omega, by decide⟩
    · rw [if_neg hr]
      have no46 : (46 : UInt8) ∉ decDigits (n / 10 ^ p) := fun h => by
        have := List.all_eq_true.1 (decDigits_all _) _ h
        simp [isDig] at this
      have n1 := natural_decDigits (n / 10 ^ p)
      have n2 := digs_of hr hra
      have l1 := len6 hq
      refine ⟨n / 10 ^ p * 10 ^ r.length + val r, 10 ^ r.length, ?_, ?_, Nat.ne_of_gt (Nat.pow_pos (by decide))⟩
      · unfold unum
        rw [cutc_some no46]
        simp only [if_true]
        rw [n1, n2]
        simp only [Bool.not_true, Bool.or_self, Bool.false_eq_true, if_false]
        rw [if_neg (by omega), val_decDigits]
      · have e10 : 10 ^ p = 10 ^ r.length * 10 ^ k := by rw [← hlr, Nat.pow_add]
        rw [← hvr] at hdm
        generalize n / 10 ^ p = m at *
        have : (m * 10 ^ r.length + val r) * 10 ^ p = (m * 10 ^ p + val r * 10 ^ k) * 10 ^ r.length := by
          rw [Nat.add_mul, Nat.add_mul]
          congr 1
          · rw [Nat.mul_right_comm]
          · rw [e10, Nat.mul_comm (10 ^ r.length), Nat.mul_assoc]
        rw [this, hdm]
theorem digit_no {c : UInt8} (hc : isDig c = false) (u : Nat) : c ∉ decDigits u := fun h => by
  have := List.all_eq_true.1 (decDigits_all u) _ h
  rw [hc] at this; cases this
theorem rtext_no {c : UInt8} (hc : isDig c = false) (h47 : c ≠ 47) {q : Rat} (h0 : 0 ≤ q.num) : c ∉ rtext q := by
  have en : itoa q.num = decDigits q.num.natAbs := by
    obtain ⟨k, hk⟩ := Int.eq_ofNat_of_zero_le h0
    rw [hk, itoa_nat]; rfl
  unfold rtext
  rw [en]
  split
  · exact digit_no hc _
  · intro h
    rcases List.mem_append.1 h with h | h
    · exact digit_no hc _ h
    · rcases List.mem_cons.1 h with h | h
      · exact h47 h
      · exact digit_no hc _ h
theorem upad_no {c : UInt8} (hc : isDig c = false) (n p : Nat) : c ∉ upad n p := by
  unfold upad
  split
  · intro h
    rcases List.mem_append.1 h with h | h
    · rw [(List.mem_replicate.1 h).2] at hc; simp [isDig] at hc
    · exact digit_no hc _ h
  · exact digit_no hc _
theorem upointed_no {c : UInt8} (hc : isDig c = false) (h46 : c ≠ 46) (n p : Nat) : c ∉ upointed n p := by
  have h := upad_no hc n p
  have hr : c ∉ urest n p := by
    intro hm
    unfold urest trimRightS at hm
    rw [List.mem_reverse] at hm
    have h2 := (List.dropWhile_sublist _).subset hm
    rw [List.mem_reverse] at h2
    exact h (List.mem_of_mem_drop h2)
  unfold upointed
  split
  · exact fun hm => h (List.mem_of_mem_take hm)
  · intro hm
    rcases List.mem_append.1 hm with hm | hm
    · exact h (List.mem_of_mem_take hm)
    · rcases List.mem_cons.1 hm with hm | hm
      · exact h46 hm
      · exact hr hm
theorem udiv_num (m u : Nat) : 0 ≤ (udiv m u).num := by
  unfold udiv
  rw [mkRat_num _ _ (by have := (uval_parts u).2.2; omega)]
  exact Int.ediv_nonneg (Int.mul_nonneg (by omega) (by omega)) (by omega)
theorem ubody_no {c : UInt8} (hc : isDig c = false) (h46 : c ≠ 46) (h47 : c ≠ 47) (m u : Nat) : c ∉ ubody m u := by
  unfold ubody
  split
  · exact upointed_no hc h46 _ _
  · exact rtext_no hc h47 (udiv_num m u)
theorem mk_back {a d n x y : Nat} (hd : d ≠ 0) (hy : y ≠ 0) (h : a * x = n * (d * y)) : mkRat (a : Int) d * mkRat (x : Int) y = ((n : Int) : Rat) := by
  rw [Rat.mkRat_mul_mkRat]
  have e : ((n : Int) : Rat) = mkRat (n : Int) 1 := by rw [show ((n : Int) : Rat) = mkRat ((n : Int) : Rat).num ((n : Int) : Rat).den from (Rat.mkRat_self _).symm]; rfl
  rw [e, Rat.mkRat_eq_iff (Nat.mul_ne_zero hd hy) (by decide)]
  have := congrArg (fun k : Nat => (k : Int)) h
  simpa using this
theorem uval_nat (u : Nat) : uval u = mkRat ((uval u).num.natAbs : Int) (uval u).den := by
  have h := (uval_parts u).2.2
  rw [show (((uval u).num.natAbs : Nat) : Int) = (uval u).num by omega, Rat.mkRat_self]
theorem uplace_val {u : Nat} (h : u < 5) (hp : 0 ≤ uplace u) : (uval u).num.natAbs = 10 ^ (uplace u).toNat ∧ (uval u).den = 1 ∧ (uplace u).toNat ≤ 4 := by
  match u, h with
  | 0, _ => decide +kernel
  | 1, _ => decide +kernel
  | 2, _ => decide +kernel
  | 3, _ => exact absurd hp (by decide)
  | 4, _ => exact absurd hp (by decide)
theorem udiv_small {m u : Nat} (hm : m ≤ 100000) : (udiv m u).num ≤ 999999 ∧ (udiv m u).den ≤ 999999 := by
  obtain ⟨v1, v2, v3⟩ := uval_parts u
  have k := mkRat_parts ((m : Int) * ((uval u).den : Int)) (1 * (uval u).num.natAbs) (by omega)
  have e : udiv m u = mkRat ((m : Int) * ((uval u).den : Int)) (1 * (uval u).num.natAbs) := rfl
  rw [← e, abs_mul] at k
  have m1 := Nat.mul_le_mul hm v2
  have e1 : (m : Int).natAbs = m := rfl
  have e2 : ((uval u).den : Int).natAbs = (uval u).den := rfl
  rw [e1, e2] at k
  omega
theorem unum_body {m u : Nat} (hm : m ≤ 100000) (hu : u < 5) : ∃ a d, unum (ubody m u) = .ok (a, d) ∧ d ≠ 0 ∧ mkRat (a : Int) d * uval u = ((m : Int) : Rat) := by
  unfold ubody
  by_cases hp : 0 ≤ uplace u
  · rw [if_pos hp]
    obtain ⟨p1, p2, p3⟩ := uplace_val hu hp
    obtain ⟨a, d, h1, h2, h3⟩ := unum_pointed (n := m) (p := (uplace u).toNat) (by omega) (by omega)
    refine ⟨a, d, h1, h3, ?_⟩
    rw [uval_nat u]
    exact mk_back h3 (uval u).den_nz (by rw [p1, p2, Nat.mul_one]; exact h2)
  · rw [if_neg hp]
    have h0 := udiv_num m u
    obtain ⟨s1, s2⟩ := udiv_small (u := u) hm
    refine ⟨_, _, unum_rtext h0 s1 s2, (udiv m u).den_nz, ?_⟩
    rw [show (((udiv m u).num.natAbs : Nat) : Int) = (udiv m u).num by omega, Rat.mkRat_self]
    have v3 := (uval_parts u).2.2
    have e : udiv m u = mkRat ((m * (uval u).den : Nat) : Int) (uval u).num.natAbs := by
      unfold udiv
      rw [Nat.one_mul, Int.natCast_mul]
    rw [e]
    conv => lhs; rhs; rw [uval_nat u]
    exact mk_back (by omega) (uval u).den_nz (by rw [Nat.mul_assoc, Nat.mul_comm (uval u).den])
theorem ubody_head {m u : Nat} : ∀ r, ubody m u ≠ 45 :: r := fun r h => by
  have := ubody_no (c := 45) (by decide) (by decide) (by decide) m u
  rw [h] at this
  exact this List.mem_cons_self
theorem trim_none {l : List UInt8} (h : (45 : UInt8) ∉ l) : trimPrefix l [45] = l ∧ hasPrefix l [45] = false := by
  have hp : hasPrefix l [45] = false := by
    unfold hasPrefix
    cases l with
    | nil => rfl
    | cons c r =>
      have : ¬ (45 : UInt8) = c := fun e => h (by rw [e]; exact List.mem_cons_self)
      simp [List.isPrefixOf, this]
  refine ⟨?_, hp⟩
  unfold trimPrefix
  rw [hp]; rfl
theorem trim_some (l : List UInt8) : trimPrefix (45 :: l) [45] = l ∧ hasPrefix (45 :: l) [45] = true := by
  have hp : hasPrefix (45 :: l) [45] = true := by unfold hasPrefix; simp [List.isPrefixOf]
  refine ⟨?_, hp⟩
  unfold trimPrefix
  rw [hp]; rfl
theorem beyond_of {um : Int} (h0 : -100000 ≤ um) (h1 : um ≤ 100000) : ubeyond ((um : Int) : Rat) = false := by
  show (decide (((100000 : Int) : Rat) < ((um : Int) : Rat)) || decide (((um : Int) : Rat) < ((-100000 : Int) : Rat))) = false
  rw [Bool.or_eq_false_iff]
  constructor
  · rw [decide_eq_false_iff_not, Rat.lt_iff]
    show ¬ (100000 : Int) * 1 < um * 1
    omega
  · rw [decide_eq_false_iff_not, Rat.lt_iff]
    show ¬ um * 1 < (-100000 : Int) * 1
    omega
theorem mk_neg (a d : Nat) : mkRat (-(a : Int)) d = - mkRat (a : Int) d := by rw [Rat.neg_mkRat]
theorem uexact_written {um : Int} {u : Nat} (h0 : -100000 ≤ um) (h1 : um ≤ 100000) (hu : u < 5) (sg : List UInt8) (hs : (0 ≤ um ∧ sg = []) ∨ (um < 0 ∧ sg = [45])) (hl : (sg ++ ubody um.natAbs u ++ 32 :: uword u).length ≤ 40) :
    uexact (sg ++ ubody um.natAbs u ++ 32 :: uword u) = .ok ((um : Int) : Rat) := by
  have nb32 := ubody_no (c := 32) (by decide) (by decide) (by decide) um.natAbs u
  have nb45 := ubody_no (c := 45) (by decide) (by decide) (by decide) um.natAbs u
  have ns : (32 : UInt8) ∉ sg ++ ubody um.natAbs u := by
    intro h
    rcases List.mem_append.1 h with h | h
    · rcases hs with ⟨_, rfl⟩ | ⟨_, rfl⟩
      · cases h
      · simp at h
    · exact nb32 h
  obtain ⟨a, d, k1, k2, k3⟩ := unum_body (m := um.natAbs) (u := u) (by omega) hu
  unfold uexact usize
  rw [if_neg (by omega), cutc_some ns]
  simp only [if_true]
  rcases hs with ⟨hs1, rfl⟩ | ⟨hs1, rfl⟩
  · rw [List.nil_append, (trim_none nb45).1, (trim_none nb45).2, k1]
    simp only [uidx_word hu]
    have e : mkRat (usign false a) d * uval u = ((um : Int) : Rat) := by
      rw [show ((um : Int) : Rat) = (((um.natAbs : Nat) : Int) : Rat) by rw [show ((um.natAbs : Nat) : Int) = um by omega]]
      exact k3
    rw [e, beyond_of h0 h1]
    rfl
  · rw [List.cons_append, List.nil_append, (trim_some _).1, (trim_some _).2, k1]
    simp only [uidx_word hu]
    have e : mkRat (usign true a) d * uval u = ((um : Int) : Rat) := by
      show mkRat (-(a : Int)) d * uval u = _
      rw [mk_neg, Rat.neg_mul, k3, ← Rat.intCast_neg, show -((um.natAbs : Nat) : Int) = um by omega]
    rw [e, beyond_of h0 h1]
    rfl
theorem uparse_written {um : Int} {u : Nat} (h0 : -100000 ≤ um) (h1 : um ≤ 100000) (hu : u < 5) (sg : List UInt8) (hs : (0 ≤ um ∧ sg = []) ∨ (um < 0 ∧ sg = [45])) (hl : (sg ++ ubody um.natAbs u ++ 32 :: uword u).length ≤ 40) :
    uparse (sg ++ ubody um.natAbs u ++ 32 :: uword u) = .ok um := by
  unfold uparse
  rw [uexact_written h0 h1 hu sg hs hl]
  rfl
theorem upointed_len' {n p : Nat} (h : n ≤ 1000000) (hp : p ≤ 4) : (upointed n p).length ≤ 20 := by
  have h1 := upad_len h hp
  have h2 := urest_len h hp
  unfold upointed
  split
  · rw [List.length_take]; omega
  · rw [List.length_append, List.length_cons, List.length_take]; omega
theorem ubody_len {m u : Nat} (hm : m ≤ 100000) (hu : u < 5) : (ubody m u).length ≤ 20 := by
  unfold ubody
  split
  · rename_i hp
    obtain ⟨_, _, p3⟩ := uplace_val hu hp
    exact upointed_len' (by omega) p3
  · have h0 := udiv_num m u
    obtain ⟨s1, s2⟩ := udiv_small (u := u) hm
    have en : itoa (udiv m u).num = decDigits (udiv m u).num.natAbs := by
      obtain ⟨k, hk⟩ := Int.eq_ofNat_of_zero_le h0
      rw [hk, itoa_nat]; rfl
    have l1 := len6 (n := (udiv m u).num.natAbs) (by omega)
    have l2 := len6 (n := (udiv m u).den) s2
    unfold rtext
    rw [en]
    split
    · omega
    · rw [List.length_append, List.length_cons]; omega
end Go.Proofs.YtlmdpamehhcblaaGreatDoorD
