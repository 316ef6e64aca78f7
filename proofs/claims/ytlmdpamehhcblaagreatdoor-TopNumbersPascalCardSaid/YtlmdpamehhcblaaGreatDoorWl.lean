import Derived.Test.YtlmdpamehhcblaaGreatDoorWk
/- Contracts of package whole: order, Compare, opposite, Neg. -/
namespace Go.Proofs.YtlmdpamehhcblaaGreatDoor
open Go.RowKit
open Go.Lib (itoa decDigits)

set_option maxHeartbeats 1000000 in
theorem order_c (w : World) (u v : Nat) (_hu : (decDigits u).length ≤ 1024) (_hv : (decDigits v).length ≤ 1024) :
    Calls Tryz.prog 178 #[.string (bs (decDigits u)), .string (bs (decDigits v))] w fun e w' => e = .returned (.int .i64 ((u : Int) - v).sign) ∧ w' = w := by
  have s1 := bs_size (decDigits u)
  have s2 := bs_size (decDigits v)
  have HC := Lib.hid (fun w => Compare_c w (decDigits u) (decDigits v))
  rcases Nat.lt_trichotomy (decDigits u).length (decDigits v).length with h | h | h
  · rw [Int.sign_eq_neg_one_of_neg (by have := YtlmdpamehhcblaaGreatDoorD.lt_of_digits h; omega)]
    rw [← s1, ← s2] at h
    rw [← s1] at _hu
    rw [← s2] at _hv
    clear s1 s2 HC
    generalize bs (decDigits u) = s at *
    generalize bs (decDigits v) = t at *
    have hne : ((s.size : Int) != (t.size : Int)) = true := by rw [bne_iff_ne]; omega
    have hne2 : (s.size != t.size) = true := by rw [bne_iff_ne]; omega
    have hlt2 : decide (s.size < t.size) = true := by simpa using h
    go_enter Tryz.func178, Tryz.ntmps178
    go_wp2_with fail
    go_ret
    exact ⟨rfl, rfl⟩
  · rw [YtlmdpamehhcblaaGreatDoorD.compare_digits u v h] at HC
    rw [← s1, ← s2] at h
    rw [← s1] at _hu
    rw [← s2] at _hv
    clear s1 s2
    generalize bs (decDigits u) = s at *
    generalize bs (decDigits v) = t at *
    have hne : ((s.size : Int) != (t.size : Int)) = false := by rw [bne_eq_false_iff_eq]; omega
    have hne2 : (s.size != t.size) = false := by rw [bne_eq_false_iff_eq]; omega
    have H := Lib.hid h; clear h
    go_enter Tryz.func178, Tryz.ntmps178
    go_wp2_with fail
    refine (HC.out _).mono ?_
    rintro e w1 ⟨rfl, rfl⟩
    go_wp2_with fail
    go_ret
    exact ⟨rfl, rfl⟩
  · rw [Int.sign_eq_one_of_pos (by have := YtlmdpamehhcblaaGreatDoorD.lt_of_digits h; omega)]
    rw [← s1, ← s2] at h
    rw [← s1] at _hu
    rw [← s2] at _hv
    clear s1 s2 HC
    generalize bs (decDigits u) = s at *
    generalize bs (decDigits v) = t at *
    have hne : ((s.size : Int) != (t.size : Int)) = true := by rw [bne_iff_ne]; omega
    have hne2 : (s.size != t.size) = true := by rw [bne_iff_ne]; omega
    have hlt2 : decide (s.size < t.size) = false := by simp; omega
    go_enter Tryz.func178, Tryz.ntmps178
    go_wp2_with fail
    go_ret
    exact ⟨rfl, rfl⟩
theorem sign_mag (m n : Int) (h : m.sign = n.sign) : m.sign * ((m.natAbs : Int) - n.natAbs).sign = (m - n).sign := by
  rcases Int.lt_trichotomy m 0 with hm | hm | hm
  · rw [Int.sign_eq_neg_one_of_neg hm] at h ⊢
    have hn : n < 0 := Int.sign_eq_neg_one_iff_neg.1 h.symm
    rw [show (m.natAbs : Int) - n.natAbs = -(m - n) by omega, Int.sign_neg]; omega
  · subst hm
    have hn : n = 0 := Int.sign_eq_zero_iff_zero.1 h.symm
    subst hn; rfl
  · rw [Int.sign_eq_one_of_pos hm] at h ⊢
    have hn : 0 < n := Int.sign_eq_one_iff_pos.1 h.symm
    rw [show (m.natAbs : Int) - n.natAbs = (m - n) by omega]; omega
theorem sign_lt {m n : Int} (h : m.sign < n.sign) : (m - n).sign = -1 := by
  apply Int.sign_eq_neg_one_of_neg
  rcases Int.lt_trichotomy m 0 with hm | hm | hm <;> rcases Int.lt_trichotomy n 0 with hn | hn | hn <;>
    simp_all [Int.sign_eq_neg_one_of_neg, Int.sign_eq_one_of_pos] <;> omega
/-- A number and no error. -/
def RetN (n : Int) (w : World) (e : Ending) (w' : World) : Prop := e = .returned (.tuple #[.int .i64 n, .int .i64 0]) ∧ Gr w w'
theorem sign_bd (m : Int) : -1 ≤ m.sign ∧ m.sign ≤ 1 := by
  rcases Int.lt_trichotomy m 0 with hm | hm | hm
  · rw [Int.sign_eq_neg_one_of_neg hm]; omega
  · subst hm; decide
  · rw [Int.sign_eq_one_of_pos hm]; omega
set_option maxHeartbeats 2000000 in
theorem WCompare_c (w : World) (m n : Int) (hm : m.natAbs < YtlmdpamehhcblaaGreatDoorD.Lim) (hn : n.natAbs < YtlmdpamehhcblaaGreatDoorD.Lim) :
    Calls Tryz.prog 102 #[.string (bs (itoa m)), .string (bs (itoa n))] w (RetN (m - n).sign w) := by
  have HA := Lib.hid (fun w g h0 h1 => all2_c w g m n h0 h1 hm hn)
  have HS1 := Lib.hid (fun w => sign_c m w)
  have HS2 := Lib.hid (fun w => sign_c n w)
  have bm := sign_bd m
  have bn := sign_bd n
  obtain ⟨bm1, bm2⟩ := bm
  obtain ⟨bn1, bn2⟩ := bn
  have HT1 := Lib.hid (fun w => by have h := TrimPrefix_c w (itoa m) [45]; rw [trim_minus, YtlmdpamehhcblaaGreatDoorD.mag_itoa] at h; exact h : ∀ w, Calls Tryz.prog 73 #[.string (bs (itoa m)), .string (bs [45])] w fun e w' => e = .returned (.string (bs (decDigits m.natAbs))) ∧ w' = w)
  have HT2 := Lib.hid (fun w => by have h := TrimPrefix_c w (itoa n) [45]; rw [trim_minus, YtlmdpamehhcblaaGreatDoorD.mag_itoa] at h; exact h : ∀ w, Calls Tryz.prog 73 #[.string (bs (itoa n)), .string (bs [45])] w fun e w' => e = .returned (.string (bs (decDigits n.natAbs))) ∧ w' = w)
  have HO := Lib.hid (fun w => order_c w m.natAbs n.natAbs (by rw [YtlmdpamehhcblaaGreatDoorD.decDigits_len]; exact YtlmdpamehhcblaaGreatDoorD.nDigits_lim hm) (by rw [YtlmdpamehhcblaaGreatDoorD.decDigits_len]; exact YtlmdpamehhcblaaGreatDoorD.nDigits_lim hn))
  have ho := sign_bd ((m.natAbs : Int) - n.natAbs)
  obtain ⟨ho1, ho2⟩ := ho
  unfold RetN
  rcases Int.lt_trichotomy m.sign n.sign with h | h | h
  · rw [sign_lt h]
    clear HT1 HT2 HO ho1 ho2 hm hn
    generalize m.sign = sm at *
    generalize n.sign = sn at *
    generalize bs (itoa m) = s at *
    generalize bs (itoa n) = t at *
    go_enter Tryz.func102, Tryz.ntmps102
    go_wp2_with fail
    refine (HA.out _ _ (new2 w _ _ _).1 (new2 w _ _ _).2).mono ?_
    rintro e w1 ⟨rfl, hg1⟩
    go_wp2_with fail
    refine (HS1.out _).mono ?_
    rintro e w2 ⟨rfl, rfl⟩
    go_wp2_with fail
    refine (HS2.out _).mono ?_
    rintro e w2 ⟨rfl, rfl⟩
    go_wp2_with fail
    go_ret2
    exact ⟨rfl, ((Gr.refl w).alloc _).trans hg1⟩
  · have HE := Lib.hid (sign_mag m n h)
    have H := Lib.hid h
    have h1 : ¬ m.sign < n.sign := by omega
    have h2 : ¬ n.sign < m.sign := by omega
    rw [← HE.out]
    clear hm hn h HE
    have p1 : -1 ≤ m.sign * ((m.natAbs : Int) - n.natAbs).sign ∧ m.sign * ((m.natAbs : Int) - n.natAbs).sign ≤ 1 := by
      rcases (show m.sign = -1 ∨ m.sign = 0 ∨ m.sign = 1 by omega) with e | e | e <;> rw [e] <;> omega
    obtain ⟨p1, p2⟩ := p1
    generalize ((m.natAbs : Int) - n.natAbs).sign = so at *
    generalize decDigits m.natAbs = dm at *
    generalize decDigits n.natAbs = dn at *
    generalize m.sign = sm at *
    generalize n.sign = sn at *
    generalize bs (itoa m) = s at *
    generalize bs (itoa n) = t at *
    go_enter Tryz.func102, Tryz.ntmps102
    go_wp2_with fail
    refine (HA.out _ _ (new2 w _ _ _).1 (new2 w _ _ _).2).mono ?_
    rintro e w1 ⟨rfl, hg1⟩
    go_wp2_with fail
    refine (HS1.out _).mono ?_
    rintro e w2 ⟨rfl, rfl⟩
    go_wp2_with fail
    refine (HS2.out _).mono ?_
    rintro e w2 ⟨rfl, rfl⟩
    go_wp2_with fail
    refine (HS2.out _).mono ?_
    rintro e w2 ⟨rfl, rfl⟩
    go_wp2_with fail
    refine (HT1.out _).mono ?_
    rintro e w2 ⟨rfl, rfl⟩
    go_wp2_with fail
    refine (HT2.out _).mono ?_
    rintro e w2 ⟨rfl, rfl⟩
    go_wp2_with fail
    refine (HO.out _).mono ?_
    rintro e w2 ⟨rfl, rfl⟩
    go_wp2_with fail
    go_ret2
    exact ⟨rfl, ((Gr.refl w).alloc _).trans hg1⟩
  · have e1 : (m - n).sign = 1 := by
      have := sign_lt h
      rw [show m - n = -(n - m) by omega, Int.sign_neg, this]; rfl
    rw [e1]
    have h1 : ¬ m.sign < n.sign := by omega
    clear HT1 HT2 HO ho1 ho2 hm hn e1
    generalize m.sign = sm at *
    generalize n.sign = sn at *
    generalize bs (itoa m) = s at *
    generalize bs (itoa n) = t at *
    go_enter Tryz.func102, Tryz.ntmps102
    go_wp2_with fail
    refine (HA.out _ _ (new2 w _ _ _).1 (new2 w _ _ _).2).mono ?_
    rintro e w1 ⟨rfl, hg1⟩
    go_wp2_with fail
    refine (HS1.out _).mono ?_
    rintro e w2 ⟨rfl, rfl⟩
    go_wp2_with fail
    refine (HS2.out _).mono ?_
    rintro e w2 ⟨rfl, rfl⟩
    go_wp2_with fail
    refine (HS2.out _).mono ?_
    rintro e w2 ⟨rfl, rfl⟩
    go_wp2_with fail
    go_ret2
    exact ⟨rfl, ((Gr.refl w).alloc _).trans hg1⟩
end Go.Proofs.YtlmdpamehhcblaaGreatDoor
