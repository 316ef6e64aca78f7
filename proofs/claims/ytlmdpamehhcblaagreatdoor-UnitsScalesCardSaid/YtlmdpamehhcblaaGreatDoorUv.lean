import Derived.Test.YtlmdpamehhcblaaGreatDoorUr
import Derived.Test.YtlmdpamehhcblaaGreatDoorUs
import Derived.KernelRfl
/- Plain laws: the same number in two units; equal parts of a unit. No program in sight. -/
namespace Go.Proofs.YtlmdpamehhcblaaGreatDoorD
open Go.Lib

theorem mk_low (p : Int) (q : Nat) (hq : q ≠ 0) : ∃ g a b : Nat, ∃ s : Int, 0 < g ∧ (mkRat p q).num = s ∧ (mkRat p q).den = b ∧ p = g * s ∧ q = g * b ∧ a = 0 := by
  have hg : 0 < Int.gcd p q := Int.gcd_pos_of_ne_zero_right _ (by omega)
  refine ⟨Int.gcd p q, 0, q / Int.gcd p q, p / (Int.gcd p q : Nat), hg, mkRat_num p q hq, mkRat_den p q hq, ?_, ?_, rfl⟩
  · exact (Int.mul_ediv_cancel' (Int.gcd_dvd_left ..)).symm
  · have h : (Int.gcd p q : Nat) ∣ q := by
      have := Int.gcd_dvd_right p (q : Int)
      exact Int.natCast_dvd_natCast.1 this
    exact (Nat.mul_div_cancel' h).symm
theorem lt_mk (c p : Int) (q : Nat) (hq : q ≠ 0) : ((c : Int) : Rat) < mkRat p q ↔ c * q < p := by
  obtain ⟨g, _, b, s, hg, e1, e2, h1, h2, _⟩ := mk_low p q hq
  rw [Rat.lt_iff, e1, e2]
  show c * (b : Int) < s * 1 ↔ _
  rw [h1, h2, Int.mul_one, Int.natCast_mul, Int.mul_left_comm]
  exact (Int.mul_lt_mul_left (by omega : (0 : Int) < g)).symm
theorem mk_lt (c p : Int) (q : Nat) (hq : q ≠ 0) : mkRat p q < ((c : Int) : Rat) ↔ p < c * q := by
  obtain ⟨g, _, b, s, hg, e1, e2, h1, h2, _⟩ := mk_low p q hq
  rw [Rat.lt_iff, e1, e2]
  show s * 1 < c * (b : Int) ↔ _
  rw [h1, h2, Int.mul_one, Int.natCast_mul, Int.mul_left_comm]
  exact (Int.mul_lt_mul_left (by omega : (0 : Int) < g)).symm
theorem beyond_mk (p : Int) (q : Nat) (hq : q ≠ 0) (h1 : p ≤ 100000 * q) (h2 : -100000 * q ≤ p) : ubeyond (mkRat p q) = false := by
  show (decide (((100000 : Int) : Rat) < mkRat p q) || decide (mkRat p q < ((-100000 : Int) : Rat))) = false
  rw [Bool.or_eq_false_iff]
  constructor
  · rw [decide_eq_false_iff_not, lt_mk _ _ _ hq]; omega
  · rw [decide_eq_false_iff_not, mk_lt _ _ _ hq]; omega
/-- A number with a point. -/
def stext (sg : Bool) (a b : Nat) : List UInt8 := (if sg then [45] else []) ++ (decDigits a ++ 46 :: decDigits b)
def snum (a b : Nat) : Nat := a * 10 ^ (decDigits b).length + b
def sden (b : Nat) : Nat := 10 ^ (decDigits b).length
def sval (sg : Bool) (a b : Nat) : Rat := mkRat (usign sg (snum a b)) (sden b)
theorem scale_unum {a b : Nat} (ha : a < 100) (hb : b < 10000) : unum (decDigits a ++ 46 :: decDigits b) = .ok (snum a b, sden b) := by
  have no46 : (46 : UInt8) ∉ decDigits a := digit_no (by decide) a
  have n1 := natural_decDigits a
  have n2 := digs_of (decDigits_ne b) (decDigits_all b)
  have l1 := len6 (n := a) (by omega)
  have l2 := len6 (n := b) (by omega)
  unfold unum
  rw [cutc_some no46]
  simp only [if_true]
  rw [n1, n2]
  simp only [Bool.not_true, Bool.or_self, Bool.false_eq_true, if_false]
  rw [if_neg (by omega), val_decDigits, val_decDigits]
  rfl
theorem sden_pos (b : Nat) : 0 < sden b := Nat.pow_pos (by decide)
theorem snum_lt {a b : Nat} (ha : a < 100) : snum a b < 100 * sden b := by
  have h : b < 10 ^ (decDigits b).length := by
    have := val_lt (decDigits_all b)
    rwa [val_decDigits] at this
  unfold snum sden
  generalize 10 ^ (decDigits b).length = d at *
  have := Nat.mul_le_mul_right d (show a ≤ 99 by omega)
  omega
theorem uword4 (u : Nat) : (uword u).length ≤ 4 := by
  match u with
  | 0 => decide
  | 1 => decide
  | 2 => decide
  | 3 => decide
  | 4 => decide
  | u + 5 => exact Nat.zero_le _
theorem uexact_scale (sg : Bool) {a b u : Nat} (ha : a < 100) (hb : b < 10000) (hu : u < 5) :
    uexact (stext sg a b ++ 32 :: uword u) = if ubeyond (sval sg a b * uval u) then .error 2 else .ok (sval sg a b * uval u) := by
  have l1 := len6 (n := a) (by omega)
  have l2 := len6 (n := b) (by omega)
  have l3 := uword4 u
  have na : ∀ c : UInt8, isDig c = false → c ≠ 46 → c ∉ decDigits a ++ 46 :: decDigits b := fun c hc h46 h => by
    rcases List.mem_append.1 h with h | h
    · exact digit_no hc _ h
    · rcases List.mem_cons.1 h with h | h
      · exact h46 h
      · exact digit_no hc _ h
  have n32 := na 32 (by decide) (by decide)
  have n45 := na 45 (by decide) (by decide)
  have hun := scale_unum ha hb
  have hlen : (stext sg a b ++ 32 :: uword u).length ≤ 40 := by
    unfold stext
    cases sg <;> simp <;> omega
  have ns : (32 : UInt8) ∉ stext sg a b := by
    unfold stext
    cases sg
    · exact n32
    · intro h
      rcases List.mem_cons.1 h with h | h
      · exact absurd h (by decide)
      · exact n32 h
  unfold uexact usize
  rw [if_neg (by omega), cutc_some ns]
  simp only [if_true]
  unfold sval
  cases sg with
  | false =>
    have e : stext false a b = decDigits a ++ 46 :: decDigits b := rfl
    rw [e, (trim_none n45).1, (trim_none n45).2, hun]
    simp only [uidx_word hu]
  | true =>
    have e : stext true a b = 45 :: (decDigits a ++ 46 :: decDigits b) := rfl
    rw [e, (trim_some _).1, (trim_some _).2, hun]
    simp only [uidx_word hu]
theorem scale_small (sg : Bool) {a b u : Nat} (ha : a < 100) (hu : u = 0 ∨ u = 1 ∨ u = 4) : ubeyond (sval sg a b * uval u) = false := by
  have h := snum_lt (b := b) ha
  have hd := sden_pos b
  unfold sval
  generalize snum a b = n at *
  generalize sden b = d at *
  have hn : usign sg n = n ∨ usign sg n = -n := by cases sg <;> simp [usign]
  have e0 : uval 0 = mkRat 1 1 := by decide +kernel
  have e1 : uval 1 = mkRat 1000 1 := by decide +kernel
  have e4 : uval 4 = mkRat 127 5 := by decide +kernel
  rcases hu with rfl | rfl | rfl
  · rw [e0, Rat.mkRat_mul_mkRat]
    refine beyond_mk _ _ (by omega) ?_ ?_ <;> (rw [Int.natCast_mul]; omega)
  · rw [e1, Rat.mkRat_mul_mkRat]
    refine beyond_mk _ _ (by omega) ?_ ?_ <;> (rw [Int.natCast_mul]; omega)
  · rw [e4, Rat.mkRat_mul_mkRat]
    refine beyond_mk _ _ (by omega) ?_ ?_ <;> (rw [Int.natCast_mul]; omega)
theorem times_u1 : uval 1 * ((10 : Int) : Rat) = uval 2 := by decide +kernel
theorem times_u0 : uval 0 * ((1000 : Int) : Rat) = uval 1 := by decide +kernel
theorem times_u4 : uval 4 * ((1000 : Int) : Rat) = uval 3 := by decide +kernel
theorem sval_Q (sg : Bool) {a b u : Nat} (ha : a < 100) (hb : b < 10000) : Q (sval sg a b * uval u) := by
  have l2 := len6 (n := b) (by omega)
  have h := snum_lt (b := b) ha
  have hd : sden b ≤ 1000000 := pow6 l2
  have hd0 := sden_pos b
  have p := mkRat_parts (usign sg (snum a b)) (sden b) (by omega)
  rw [usign_abs] at p
  have q := mul_parts (sval sg a b) (uval u)
  obtain ⟨v1, v2, _⟩ := uval_parts u
  have e : sval sg a b = mkRat (usign sg (snum a b)) (sden b) := rfl
  rw [← e] at p
  have m1 := Nat.mul_le_mul (Nat.le_trans p.1 (Nat.le_of_lt h)) v1
  have m2 := Nat.mul_le_mul p.2 v2
  have e1 : (10 : Nat) ^ 18 = 1000000000000000000 := by decide
  exact Q.of (k := 18) (by decide) (by rw [e1]; omega) (by rw [e1]; omega)
/-- One of k parts of a unit. -/
def ptext (k u : Nat) : List UInt8 := 49 :: 47 :: (decDigits k ++ 32 :: uword u)
def uwhole (u : Nat) : Int := ([1, 1000, 10000] : List Int).getD u 0
theorem uexact_ptext {k u : Nat} (h1 : 1 ≤ k) (h2 : k ≤ 40) (hu : u < 3) : uexact (ptext k u) = .ok (mkRat 1 k * uval u) := by
  have l1 := len6 (n := k) (by omega)
  have l3 := uword4 u
  have na : ∀ c : UInt8, isDig c = false → c ≠ 47 → c ∉ 49 :: 47 :: decDigits k := fun c hc h47 h => by
    rcases List.mem_cons.1 h with h | h
    · rw [h] at hc; exact absurd hc (by decide)
    · rcases List.mem_cons.1 h with h | h
      · exact h47 h
      · exact digit_no hc _ h
  have hn : unum (49 :: 47 :: decDigits k) = .ok (1, k) := by
    unfold unum
    rw [cutc_none (na 46 (by decide) (by decide)), show (49 :: 47 :: decDigits k : List UInt8) = [49] ++ 47 :: decDigits k from rfl, cutc_some (by decide)]
    simp only [if_true, Bool.false_eq_true, if_false]
    have z : decDigits k ≠ [48] := fun e => by
      have := val_decDigits k
      rw [e] at this
      have v : val [48] = 0 := by rw [val_one]; rfl
      omega
    rw [natural_decDigits, show natural [49] = true by decide]
    simp only [Bool.not_true, Bool.or_self, Bool.false_eq_true, if_false]
    rw [if_neg (by simp; omega), if_neg z, val_decDigits, val_one]
    rfl
  have ns := na 32 (by decide) (by decide)
  have n45 := na 45 (by decide) (by decide)
  have e : ptext k u = (49 :: 47 :: decDigits k) ++ 32 :: uword u := rfl
  have hl : (ptext k u).length ≤ 40 := by unfold ptext; simp; omega
  unfold uexact usize
  rw [if_neg (by omega), e, cutc_some ns]
  simp only [if_true]
  rw [(trim_none n45).1, (trim_none n45).2, hn]
  simp only [uidx_word (show u < 5 by omega)]
  have es : usign false 1 = 1 := rfl
  rw [es]
  have hb : ubeyond (mkRat 1 k * uval u) = false := by
    match u, hu with
    | 0, _ =>
      rw [show uval 0 = mkRat 1 1 by decide +kernel, Rat.mkRat_mul_mkRat]
      refine beyond_mk _ _ (by omega) ?_ ?_ <;> (rw [Int.natCast_mul]; omega)
    | 1, _ =>
      rw [show uval 1 = mkRat 1000 1 by decide +kernel, Rat.mkRat_mul_mkRat]
      refine beyond_mk _ _ (by omega) ?_ ?_ <;> (rw [Int.natCast_mul]; omega)
    | 2, _ =>
      rw [show uval 2 = mkRat 10000 1 by decide +kernel, Rat.mkRat_mul_mkRat]
      refine beyond_mk _ _ (by omega) ?_ ?_ <;> (rw [Int.natCast_mul]; omega)
  rw [hb]
  rfl
theorem fold_rep {t : List UInt8} {x : Rat} (h : uexact t = .ok x) : ∀ (k : Nat) (q : Rat), (List.replicate k t).foldl ustep (.ok q) = .ok (q + mkRat k 1 * x)
  | 0, q => by
    rw [List.replicate_zero, List.foldl_nil, show (mkRat ((0 : Nat) : Int) 1) = 0 by decide +kernel, Rat.zero_mul, Rat.add_zero]
  | k + 1, q => by
    have e : ustep (.ok q) t = .ok (q + x) := by unfold ustep; rw [h]
    rw [List.replicate_succ, List.foldl_cons, e, fold_rep h k (q + x)]
    have e2 : mkRat ((k + 1 : Nat) : Int) 1 = 1 + mkRat k 1 := by
      rw [show (1 : Rat) = mkRat 1 1 by decide +kernel, Rat.mkRat_add_mkRat _ _ (by decide) (by decide)]
      congr 1
      omega
    rw [e2, Rat.add_mul, Rat.one_mul, Rat.add_assoc]
theorem parts_whole {k u : Nat} (h1 : 1 ≤ k) (h2 : k ≤ 40) (hu : u < 3) : usumR (List.replicate k (ptext k u)) = .ok (uval u) := by
  unfold usumR
  rw [fold_rep (uexact_ptext h1 h2 hu) k 0, Rat.zero_add, ← Rat.mul_assoc, Rat.mkRat_mul_mkRat]
  have e : mkRat ((k : Int) * 1) (1 * k) = 1 := by
    rw [show (1 : Rat) = mkRat 1 1 by decide +kernel, Rat.mkRat_eq_iff (by omega) (by decide)]
    omega
  rw [e, Rat.one_mul]
theorem whole_int {u : Nat} (hu : u < 3) : ubeyond (uval u) = false ∧ uint (uval u) = .ok (uwhole u) ∧ uexact ([45, 49, 32] ++ uword u) = .ok (- uval u) ∧ uparse ([49, 32] ++ uword u) = .ok (uwhole u) ∧ 1 ≤ uwhole u := by
  exact match u, hu with
  | 0, _ => ⟨by kernel_rfl, by kernel_rfl, by kernel_rfl, by kernel_rfl, by decide⟩
  | 1, _ => ⟨by kernel_rfl, by kernel_rfl, by kernel_rfl, by kernel_rfl, by decide⟩
  | 2, _ => ⟨by kernel_rfl, by kernel_rfl, by kernel_rfl, by kernel_rfl, by decide⟩
theorem usum_ptexts {k u : Nat} (h1 : 1 ≤ k) (h2 : k ≤ 40) (hu : u < 3) : usum (List.replicate k (ptext k u)) = .ok (uwhole u) := by
  obtain ⟨w1, w2, _⟩ := whole_int hu
  unfold usum
  rw [List.length_replicate, if_neg (by omega), parts_whole h1 h2 hu]
  simp only []
  rw [w1, w2]
  rfl
theorem usum_less {k u : Nat} (h1 : 1 ≤ k) (h2 : k ≤ 40) (hu : u < 3) : usum (List.replicate k (ptext k u) ++ [[45, 49, 32] ++ uword u]) = .ok 0 := by
  obtain ⟨_, _, w3, _⟩ := whole_int hu
  have hp := parts_whole h1 h2 hu
  have e : usumR (List.replicate k (ptext k u) ++ [[45, 49, 32] ++ uword u]) = .ok 0 := by
    unfold usumR at *
    rw [List.foldl_append, hp, List.foldl_cons, List.foldl_nil]
    unfold ustep
    rw [w3]
    simp only []
    rw [Rat.add_neg_cancel]
  unfold usum
  rw [List.length_append, List.length_replicate, if_neg (by simp; omega), e]
  rfl
end Go.Proofs.YtlmdpamehhcblaaGreatDoorD
