/- Plain laws on the texts of rational numbers: a numeral, or a numeral, a stroke and a numeral, in lowest terms. No program in sight. -/
import Derived.Test.YtlmdpamehhcblaaGreatDoorDec
namespace Go.Proofs.YtlmdpamehhcblaaGreatDoorD
open Go.Lib

/-- The text of a rational number. -/
def rtext (q : Rat) : List UInt8 := if q.den = 1 then itoa q.num else itoa q.num ++ 47 :: decDigits q.den
/-- What a numerator and a denominator are joined to. -/
def rjoin (n d : List UInt8) : List UInt8 := if d = [49] then n else n ++ 47 :: d

theorem decDigits_1 : decDigits 1 = [49] := by rw [decDigits_small (by decide)]; rfl
theorem decDigits_eq_1 {d : Nat} : decDigits d = [49] ↔ d = 1 :=
  ⟨fun h => decDigits_inj (h.trans decDigits_1.symm), fun h => by rw [h]; exact decDigits_1⟩
theorem rjoin_eq (n : Int) (d : Nat) (hd : d ≠ 0) (h : n.natAbs.Coprime d) : rjoin (itoa n) (decDigits d) = rtext ⟨n, d, hd, h⟩ := by
  unfold rjoin rtext
  by_cases e : d = 1
  · subst e; rw [if_pos decDigits_1]; rfl
  · rw [if_neg (fun x => e (decDigits_eq_1.1 x))]; simp only [e, if_false]
theorem rjoin_q (q : Rat) : rjoin (itoa q.num) (decDigits q.den) = rtext q := rjoin_eq q.num q.den q.den_nz q.reduced
theorem itoa_no47 (n : Int) : (47 : UInt8) ∉ itoa n := by
  have hd : ∀ u : Nat, (47 : UInt8) ∉ decDigits u := fun u h => by
    have := decDigits_all u
    rw [List.all_eq_true] at this
    have := this _ h
    simp [isDig] at this
  unfold itoa
  split
  · intro h
    rcases List.mem_cons.1 h with h | h
    · exact absurd h (by decide)
    · exact hd _ h
  · exact hd _
theorem rtext_ne (q : Rat) : rtext q ≠ [] := by
  unfold rtext; split
  · exact itoa_ne _
  · simp
theorem rtext_int {q : Rat} (h : q.den = 1) : rtext q = itoa q.num := by unfold rtext; rw [if_pos h]
theorem rtext_ofInt (n : Int) : rtext (n : Rat) = itoa n := rtext_int (by simp)
theorem mkRat_eq (n : Int) (d : Nat) (hd : d ≠ 0) : mkRat n d = Rat.normalize n d hd := by simp [mkRat, hd]
theorem mkRat_num (n : Int) (d : Nat) (hd : d ≠ 0) : (mkRat n d).num = n / (Int.gcd n d : Nat) := by
  rw [mkRat_eq n d hd, Rat.normalize_eq]; rfl
theorem mkRat_den (n : Int) (d : Nat) (hd : d ≠ 0) : (mkRat n d).den = d / Int.gcd n d := by
  rw [mkRat_eq n d hd, Rat.normalize_eq]; rfl
/-- A quotient in lowest terms. -/
theorem lowest_eq (n : Int) (d : Nat) (hd : d ≠ 0) : rjoin (itoa (n / (Int.gcd n d : Nat))) (decDigits (d / Int.gcd n d)) = rtext (mkRat n d) := by
  rw [← rjoin_q, mkRat_num n d hd, mkRat_den n d hd]
theorem add_mk (a b : Rat) : a + b = mkRat (a.num * b.den + b.num * a.den) (a.den * b.den) := by
  rw [Rat.add_def, mkRat_eq _ _ (Nat.mul_ne_zero a.den_nz b.den_nz)]
theorem mul_mk (a b : Rat) : a * b = mkRat (a.num * b.num) (a.den * b.den) := by
  rw [Rat.mul_def, mkRat_eq _ _ (Nat.mul_ne_zero a.den_nz b.den_nz)]
theorem rtext_inj {a b : Rat} (h : rtext a = rtext b) : a = b := by
  have key : ∀ (l m r s : List UInt8), (47 : UInt8) ∉ l → (47 : UInt8) ∉ m → l ++ 47 :: r = m ++ 47 :: s → l = m ∧ r = s := by
    intro l
    induction l with
    | nil =>
      intro m r s _ hm h
      cases m with
      | nil => simp at h; exact ⟨rfl, h⟩
      | cons c m => simp at h; exact absurd (by rw [h.1]; exact List.mem_cons_self) hm
    | cons c l ih =>
      intro m r s hl hm h
      cases m with
      | nil => simp at h; exact absurd (by rw [← h.1]; exact List.mem_cons_self) hl
      | cons x m =>
        simp only [List.cons_append, List.cons.injEq] at h
        obtain ⟨h1, h2⟩ := ih m r s (fun x => hl (List.mem_cons_of_mem _ x)) (fun x => hm (List.mem_cons_of_mem _ x)) h.2
        exact ⟨by rw [h.1, h1], h2⟩
  unfold rtext at h
  by_cases ha : a.den = 1 <;> by_cases hb : b.den = 1
  · rw [if_pos ha, if_pos hb] at h
    exact Rat.ext (itoa_inj h) (ha.trans hb.symm)
  · rw [if_pos ha, if_neg hb] at h
    exact absurd (by rw [h]; simp) (itoa_no47 a.num)
  · rw [if_neg ha, if_pos hb] at h
    exact absurd (by rw [← h]; simp) (itoa_no47 b.num)
  · rw [if_neg ha, if_neg hb] at h
    obtain ⟨h1, h2⟩ := key _ _ _ _ (itoa_no47 _) (itoa_no47 _) h
    exact Rat.ext (itoa_inj h1) (decDigits_inj h2)
end Go.Proofs.YtlmdpamehhcblaaGreatDoorD
