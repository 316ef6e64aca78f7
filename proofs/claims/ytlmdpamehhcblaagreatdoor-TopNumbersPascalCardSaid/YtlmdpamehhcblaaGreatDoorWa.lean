import Derived.Test.YtlmdpamehhcblaaGreatDoorBase
/- Contracts of package whole: what needs no memory: sign, opposite. -/
namespace Go.Proofs.YtlmdpamehhcblaaGreatDoor
open Go.RowKit
open Go.Lib (itoa decDigits)

theorem itoa_zero_iff (n : Int) : ((bs (itoa n)).toList == [48]) = decide (n = 0) := by
  rw [bs_toList, Bool.eq_iff_iff, beq_iff_eq, decide_eq_true_iff]
  constructor
  · intro h
    have : itoa n = itoa 0 := by rw [h]; rw [show (0 : Int) = ((0 : Nat) : Int) from rfl, YtlmdpamehhcblaaGreatDoorD.itoa_nat, YtlmdpamehhcblaaGreatDoorD.decDigits_small (by decide)]; rfl
    exact YtlmdpamehhcblaaGreatDoorD.itoa_inj this
  · intro h; subst h
    rw [show (0 : Int) = ((0 : Nat) : Int) from rfl, YtlmdpamehhcblaaGreatDoorD.itoa_nat, YtlmdpamehhcblaaGreatDoorD.decDigits_small (by decide)]; rfl
theorem itoa_pos (n : Int) : 0 < (bs (itoa n)).size := by
  rw [bs_size]; exact List.length_pos_iff.2 (YtlmdpamehhcblaaGreatDoorD.itoa_ne n)
theorem get0_45 : ∀ (l : List UInt8) (h : 0 < (bs l).size), (((bs l)[0].toNat : Int) == 45) = (l.head? == some 45)
  | [], h => by simp [bs_size] at h
  | c :: r, h => by
    rw [Bool.eq_iff_iff, beq_iff_eq, beq_iff_eq, List.head?_cons, Option.some.injEq]
    show ((c.toNat : Int) = 45) ↔ c = 45
    constructor
    · intro hc
      have : c.toNat = (45 : UInt8).toNat := by simp; omega
      exact UInt8.toNat_inj.1 this
    · intro hc; rw [hc]; rfl
theorem itoa_neg_iff (n : Int) (h : 0 < (bs (itoa n)).size) : (((bs (itoa n))[0].toNat : Int) == 45) = decide (n < 0) := by
  rw [get0_45, ← YtlmdpamehhcblaaGreatDoorD.minus_itoa n]; rfl

set_option maxHeartbeats 400000 in
theorem sign_c (n : Int) (w : World) : Calls Tryz.prog 177 #[.string (bs (itoa n))] w fun e w' => e = .returned (.int .i64 n.sign) ∧ w = w' := by
  have h0 := itoa_pos n
  have h1 := itoa_zero_iff n
  have h2 := itoa_neg_iff n h0
  generalize bs (itoa n) = s at *
  rcases Int.lt_trichotomy n 0 with hn | hn | hn
  · rw [decide_eq_false (by omega)] at h1; rw [decide_eq_true hn] at h2
    have e := Int.sign_eq_neg_one_of_neg hn
    rw [e]; clear hn e
    go_enter Tryz.func177, Tryz.ntmps177
    go_wp2
    go_ret
    exact ⟨rfl, rfl⟩
  · rw [decide_eq_true hn] at h1; subst hn; clear h2
    go_enter Tryz.func177, Tryz.ntmps177
    go_wp2
    go_ret
    exact ⟨rfl, rfl⟩
  · rw [decide_eq_false (by omega)] at h1; rw [decide_eq_false (by omega)] at h2
    have e := Int.sign_eq_one_of_pos hn
    rw [e]; clear hn e
    go_enter Tryz.func177, Tryz.ntmps177
    go_wp2
    go_ret
    exact ⟨rfl, rfl⟩
end Go.Proofs.YtlmdpamehhcblaaGreatDoor
