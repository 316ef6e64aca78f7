import Derived.Test.YtlmdpamehhcblaaGreatDoorWl
/- Contracts of package whole: parted (a divisor that is positive; a dividend that is not negative, or a multiple), Quo, Rem. -/
namespace Go.Proofs.YtlmdpamehhcblaaGreatDoor
open Go.RowKit
open Go.Lib (itoa decDigits)
open YtlmdpamehhcblaaGreatDoorV (wd nw B upd B_eq)

/-- A quotient, a rest, and no error. -/
def RetQ (q r : Int) (w : World) (e : Ending) (w' : World) : Prop := e = .returned (.tuple #[.string (bs (itoa q)), .string (bs (itoa r)), .int .i64 0]) ∧ Gr w w'
theorem tdiv_eq {m n : Int} (hn : 0 < n) (h : 0 ≤ m ∨ n ∣ m) : m.tdiv n = m / n ∧ m.tmod n = m % n := by
  rcases h with h | h
  · exact ⟨Int.tdiv_eq_ediv_of_nonneg h, Int.tmod_eq_emod_of_nonneg h⟩
  · obtain ⟨k, rfl⟩ := h
    rw [Int.mul_tdiv_cancel_left _ (by omega), Int.mul_ediv_cancel_left _ (by omega), Int.mul_tmod_right, Int.mul_emod_right]
    exact ⟨rfl, rfl⟩
set_option maxHeartbeats 2000000 in
set_option maxRecDepth 100000 in
theorem parted_small (w : World) (he : Env w) (m n : Int) (hm : m.natAbs < YtlmdpamehhcblaaGreatDoorD.Lim) (hn : n.natAbs < YtlmdpamehhcblaaGreatDoorD.Lim) (h0 : 0 < n) (hd : 0 ≤ m ∨ n ∣ m) (hs1 : isShort m = true) (hs2 : isShort n = true) :
    Calls Tryz.prog 201 #[.string (bs (itoa m)), .string (bs (itoa n))] w (RetQ (m / n) (m % n) w) := by
  have HA := Lib.hid (fun w g h0 h1 => all2_c w g m n h0 h1 hm hn)
  have HS := Lib.hid (fun w => small_yes w m n hs1 hs2)
  have b1 := short_bd hs1
  have b2 := short_bd hs2
  obtain ⟨b1, b3⟩ := b1
  obtain ⟨b2, b4⟩ := b2
  obtain ⟨t1, t2⟩ := tdiv_eq h0 hd
  have q1 : -1000000000 < m / n ∧ m / n < 1000000000 := by
    constructor
    · have : -999999999 ≤ m / n := (Int.le_ediv_iff_mul_le h0).2 (by omega)
      omega
    · exact Int.ediv_lt_of_lt_mul h0 (by omega)
  have r1 : 0 ≤ m % n := Int.emod_nonneg m (by omega)
  have r2 : m % n < n := Int.emod_lt_of_pos m h0
  obtain ⟨q1, q2⟩ := q1
  have HO1 := Lib.hid (fun w he => Of_c w he (m / n) (by omega) (by omega))
  have HO2 := Lib.hid (fun w he => Of_c w he (m % n) (by omega) (by omega))
  have hz : ((bs (itoa n)).toList == [48]) = false := by rw [itoa_zero_iff, decide_eq_false (by omega)]
  have hn0 : ¬ n < 0 := by omega
  have hnb : (n == 0) = false := by rw [beq_eq_false_iff_ne]; omega
  rw [← t1] at q1 q2 HO1
  rw [← t2] at r1 r2 HO2
  unfold RetQ
  rw [← t1, ← t2]
  clear hm hn hd hs1 hs2 t1 t2
  generalize hq : m.tdiv n = q at *
  generalize hr : m.tmod n = r at *
  generalize bs (itoa q) = sq at *
  generalize bs (itoa r) = sr at *
  generalize bs (itoa m) = s at *
  generalize bs (itoa n) = t at *
  have w1 : wrap64 q = q := IntWalk.wrap64_in q ⟨by omega, by omega⟩
  have w2 : IntKind.i64.wrap q = q := IntWalk.i64_in q ⟨by omega, by omega⟩
  have d1 : decide (r < 0) = false := decide_eq_false (by omega)
  have d2 : decide (n < 0) = false := decide_eq_false (by omega)
  by_cases hr0 : r = 0
  · have e1 : (r != 0) = false := by rw [bne_eq_false_iff_eq]; exact hr0
    have H0 := Lib.hid hr0; clear hr0
    go_enter Tryz.func201, Tryz.ntmps201
    go_wp2_with fail
    refine (HA.out _ _ (new2 w _ _ _).1 (new2 w _ _ _).2).mono ?_
    rintro e w1 ⟨rfl, hg1⟩
    have HG1 := Lib.hid (((Gr.refl w).alloc _).trans hg1)
    clear hg1
    go_wp2_with fail
    refine (HS.out _).mono ?_
    rintro e w2 ⟨rfl, hg2⟩
    have HG2 := Lib.hid (HG1.out.trans hg2)
    clear hg2
    go_wp2_with fail
    go_quiet (fail)
    have HG3 := Lib.hid (HG2.out.drewN nq)
    generalize w2.drewN nq = w3 at *
    go_wp2_with fail
    refine (HO1.out _ (he.gr HG3.out)).mono ?_
    rintro e w4 ⟨rfl, hg4⟩
    have HG4 := Lib.hid (HG3.out.trans hg4)
    clear hg4
    go_wp2_with fail
    refine (HO2.out _ (he.gr HG4.out)).mono ?_
    rintro e w5 ⟨rfl, hg5⟩
    go_wp2_with fail
    go_ret3
    exact ⟨rfl, HG4.out.trans hg5⟩
  · have e1 : (r != 0) = true := by rw [bne_iff_ne]; exact hr0
    go_enter Tryz.func201, Tryz.ntmps201
    go_wp2_with fail
    refine (HA.out _ _ (new2 w _ _ _).1 (new2 w _ _ _).2).mono ?_
    rintro e w1 ⟨rfl, hg1⟩
    have HG1 := Lib.hid (((Gr.refl w).alloc _).trans hg1)
    clear hg1
    go_wp2_with fail
    refine (HS.out _).mono ?_
    rintro e w2 ⟨rfl, hg2⟩
    have HG2 := Lib.hid (HG1.out.trans hg2)
    clear hg2
    go_wp2_with fail
    go_quiet (fail)
    have HG3 := Lib.hid (HG2.out.drewN nq)
    generalize w2.drewN nq = w3 at *
    go_wp2_with fail
    refine (HO1.out _ (he.gr HG3.out)).mono ?_
    rintro e w4 ⟨rfl, hg4⟩
    have HG4 := Lib.hid (HG3.out.trans hg4)
    clear hg4
    go_wp2_with fail
    refine (HO2.out _ (he.gr HG4.out)).mono ?_
    rintro e w5 ⟨rfl, hg5⟩
    go_wp2_with fail
    go_ret3
    exact ⟨rfl, HG4.out.trans hg5⟩
end Go.Proofs.YtlmdpamehhcblaaGreatDoor
