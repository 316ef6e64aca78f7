import Derived.Test.YtlmdpamehhcblaaGreatDoorWm
/- Contracts of package whole: parted at large numbers, Quo, Rem. -/
namespace Go.Proofs.YtlmdpamehhcblaaGreatDoor
open Go.RowKit
open Go.Lib (itoa decDigits)
open YtlmdpamehhcblaaGreatDoorV (wd nw B upd B_eq)

theorem quo_text {m n : Int} (h0 : 0 < n) (hd : 0 ≤ m ∨ n ∣ m) : wint (decide (m < 0)) (m.natAbs / n.natAbs) = m / n ∧ wint (decide (m < 0)) (m.natAbs % n.natAbs) = m % n := by
  obtain ⟨v, rfl⟩ := Int.eq_ofNat_of_zero_le (show 0 ≤ n by omega)
  rcases (show m < 0 ∨ 0 ≤ m by omega) with h | h
  · have hd2 : (v : Int) ∣ m := by rcases hd with hd | hd; omega; exact hd
    obtain ⟨k, rfl⟩ := hd2
    have hk : k < 0 := by
      apply Int.lt_of_not_ge; intro hk
      have := Int.mul_nonneg (show 0 ≤ (v : Int) by omega) hk
      omega
    obtain ⟨j, hj⟩ : ∃ j : Nat, k = -(j : Int) := ⟨k.natAbs, by omega⟩
    subst hj
    rw [decide_eq_true h, Int.natAbs_mul, Int.natAbs_natCast, Int.natAbs_neg, Int.natAbs_natCast, Nat.mul_div_cancel_left _ (by omega), Nat.mul_mod_right, Int.mul_ediv_cancel_left _ (by omega), Int.mul_emod_right]
    unfold wint
    simp
  · obtain ⟨u, rfl⟩ := Int.eq_ofNat_of_zero_le h
    rw [decide_eq_false (by omega)]
    unfold wint
    simp
def w6z (W : World) (g : Nat) : Prop := W.cell? ⟨g, 1, none⟩ = some (.int .i64 ((0 : Nat) : Int))
set_option maxHeartbeats 4000000 in
set_option maxRecDepth 100000 in
theorem parted_big (w : World) (he : Env w) (m n : Int) (hm : m.natAbs < YtlmdpamehhcblaaGreatDoorD.Lim) (hn : n.natAbs < YtlmdpamehhcblaaGreatDoorD.Lim) (h0 : 0 < n) (hd : 0 ≤ m ∨ n ∣ m) (hs : isShort m = false ∨ isShort n = false) :
    Calls Tryz.prog 201 #[.string (bs (itoa m)), .string (bs (itoa n))] w (RetQ (m / n) (m % n) w) := by
  have HA := Lib.hid (fun w g h0 h1 => all2_c w g m n h0 h1 hm hn)
  have HS := Lib.hid (fun w => small_no w m n hs (by have := itoa_len_le hm; omega) (by have := itoa_len_le hn; omega))
  have HR1 := Lib.hid (fun w => read_c w m hm)
  have HR2 := Lib.hid (fun w => by have := read_c w n hn; rw [decide_eq_false (show ¬ n < 0 by omega)] at this; exact this : ∀ w, Calls Tryz.prog 103 #[.string (bs (itoa n))] w (NewW false n.natAbs w))
  have N1 := nw_le_of hm
  have N2 := nw_le_of hn
  have hz : ((bs (itoa n)).toList == [48]) = false := by rw [itoa_zero_iff, decide_eq_false (by omega)]
  obtain ⟨t1, t2⟩ := quo_text h0 hd
  have hY0 : n.natAbs ≠ 0 := by omega
  have hmd : nw (m.natAbs % n.natAbs) ≠ 0 → decide (m < 0) = false := by
    intro hne
    rcases hd with hd | hd
    · exact decide_eq_false (by omega)
    · exact absurd (by rw [Nat.mod_eq_zero_of_dvd (Int.natAbs_dvd_natAbs.2 hd), YtlmdpamehhcblaaGreatDoorV.nw_zero]) hne
  have hq := Nat.lt_of_le_of_lt (Nat.div_le_self m.natAbs n.natAbs) hm
  have hr := Nat.lt_of_le_of_lt (Nat.mod_le m.natAbs n.natAbs) hm
  have HQ := Lib.hid hq; have HR := Lib.hid hr; have HMD := Lib.hid hmd; have HY0 := Lib.hid hY0
  rw [← t1, ← t2]
  clear hm hn hs h0 hd t1 t2 hq hr hmd hY0
  unfold RetQ
  generalize decide (m < 0) = l1 at *
  generalize m.natAbs = u at *
  generalize n.natAbs = v at *
  generalize bs (itoa m) = s at *
  generalize bs (itoa n) = t at *
  rw [← wtext_wint, ← wtext_wint]
  go_enter Tryz.func201, Tryz.ntmps201
  go_wp2_with fail
  refine (HA.out _ _ (new2 w _ _ _).1 (new2 w _ _ _).2).mono ?_
  rintro e w1 ⟨rfl, hg1⟩
  have HG1 := Lib.hid (((Gr.refl w).alloc _).trans hg1)
  clear hg1
  go_wp2_with fail
  refine (HS.out _).mono ?_
  rintro e w2 ⟨rfl, hg2⟩
  have HG2 := Lib.hid (HG1.out.trans hg2)
  clear hg2
  go_wp2_with fail
  refine (HR1.out _).mono ?_
  rintro e w3 ⟨gx, rfl, hx0, hx, hg3⟩
  have HG3 := Lib.hid (HG2.out.trans hg3)
  have HX := Lib.hid hx
  have HX0 := Lib.hid (Nat.le_trans HG2.out.size hx0)
  clear hg3 hx hx0
  go_wp2_with fail
  refine (HR2.out _).mono ?_
  rintro e w4 ⟨gy, rfl, hy0, hy, hg4⟩
  have HG4 := Lib.hid (HG3.out.trans hg4)
  have HX4 := Lib.hid (HX.out.grow hg4)
  have HY := Lib.hid hy
  have HY1 := Lib.hid (Nat.le_trans HG3.out.size hy0)
  clear hg4 hy hy0
  go_wp2_with fail
  refine (divided_c _ gx gy l1 false u v HX4.out HY.out HY0.out (by omega) (by omega)).mono ?_
  rintro e w5 ⟨gq, gr, rfl, hq0, hr0, hqr, hq, hr, hg5⟩
  have HG5 := Lib.hid (HG4.out.trans hg5)
  have HX5 := Lib.hid (HX4.out.grow hg5)
  have HY5 := Lib.hid (HY.out.grow hg5)
  have hxq : gx ≠ gq := by have := HX4.out.1.lt; omega
  have hxr : gx ≠ gr := by have := HX4.out.1.lt; omega
  have hyq : gy ≠ gq := by have := HY.out.1.lt; omega
  have hyr : gy ≠ gr := by have := HY.out.1.lt; omega
  have HQ0 := Lib.hid (Nat.le_trans HG4.out.size hq0)
  have HR0 := Lib.hid (Nat.le_trans HG4.out.size hr0)
  have HQ5 := Lib.hid hq
  have HR5 := Lib.hid hr
  have x0 := HX5.out.1.c0
  have y0 := HY5.out.1.c0
  have q0 := hq.1.c0
  have r0 := hr.1.c0
  have fq0 := hq.1.fz 0
  have fr0 := hr.1.fz 0
  have hrq := Ne.symm hqr
  have hqx := Ne.symm hxq
  have hrx := Ne.symm hxr
  have hqy := Ne.symm hyq
  have hry := Ne.symm hyr
  clear hg5 hq hr hq0 hr0
  go_wp2_with fail
  go_region_held3 (fun w' => w'.cell? ⟨gx, 0, none⟩ = some (.bool l1) ∧ w'.cell? ⟨gy, 0, none⟩ = some (.bool false)) (go_keep) (fail)
  obtain ⟨W6, hW6⟩ : ∃ W6, W6 = ((w5.setCell ⟨gq, 0, none⟩ (.bool l1)).setCell ⟨gr, 0, none⟩ (.bool l1)).drew := ⟨_, rfl⟩
  rw [← hW6]
  have HQ6 := Lib.hid (show IsW W6 gq l1 (u / v) from by rw [hW6]; exact ⟨((HQ5.out.1.set0 l1).far hqr _).drew, HQ5.out.2⟩)
  have HR6 := Lib.hid (show IsW W6 gr l1 (u % v) from by rw [hW6]; exact ⟨((HR5.out.1.far hrq _).set0 l1).drew, HR5.out.2⟩)
  have HG6 := Lib.hid (show Gr w W6 from by rw [hW6]; exact ((HG5.out.setCell (p := ⟨gq, 0, none⟩) HQ0.out _).setCell (p := ⟨gr, 0, none⟩) HR0.out _).drew)
  have x6 : W6.cell? ⟨gx, 0, none⟩ = some (.bool l1) := by rw [hW6]; exact ((HX5.out.1.far hxq _).far hxr _).drew.c0
  have y6 : W6.cell? ⟨gy, 0, none⟩ = some (.bool false) := by rw [hW6]; exact ((HY5.out.1.far hyq _).far hyr _).drew.c0
  have r6 := HR6.out.1.c1
  clear hW6 x0 y0 q0 r0 fq0 fr0 hxq hxr hyq hyr hqr hrq hqx hrx hqy hry
  clear HG1 HG2 HG3 HG4 HG5 HX HX0 HX4 HX5 HY HY1 HY5 HQ0 HR0 HQ5 HR5 HA HS HR1 HR2 HY0 N1 N2 hz
  have key : w6z W6 gr ∨ (∃ k : Nat, W6.cell? ⟨gr, 1, none⟩ = some (.int .i64 ((k + 1 : Nat) : Int))) ∧ l1 = false := by
    by_cases hnz : nw (u % v) = 0
    · left; rw [hnz] at r6; exact r6
    · right; exact ⟨⟨nw (u % v) - 1, by rw [show nw (u % v) - 1 + 1 = nw (u % v) by omega]; exact r6⟩, HMD.out hnz⟩
  clear r6
  rcases key with r6 | ⟨⟨k, r6⟩, hl⟩
  · unfold w6z at r6
    go_wp2_with fail
    go_quiet (fail)
    go_wp2_with fail
    refine (text_c _ (he.gr (HG6.out.drewN nq)) gq l1 (u / v) (HQ6.out.drewN nq) HQ.out).mono ?_
    rintro e w7 ⟨rfl, hg7⟩
    have HG7 := Lib.hid ((HG6.out.drewN nq).trans hg7)
    have HR7 := Lib.hid ((HR6.out.drewN nq).grow hg7)
    clear hg7
    go_wp2_with fail
    refine (text_c _ (he.gr HG7.out) gr l1 (u % v) HR7.out HR.out).mono ?_
    rintro e w8 ⟨rfl, hg8⟩
    go_wp2_with fail
    go_ret3
    exact ⟨rfl, HG7.out.trans hg8⟩
  · subst hl
    go_wp2_with fail
    go_quiet (fail)
    go_wp2_with fail
    refine (text_c _ (he.gr (HG6.out.drewN nq)) gq false (u / v) (HQ6.out.drewN nq) HQ.out).mono ?_
    rintro e w7 ⟨rfl, hg7⟩
    have HG7 := Lib.hid ((HG6.out.drewN nq).trans hg7)
    have HR7 := Lib.hid ((HR6.out.drewN nq).grow hg7)
    clear hg7
    go_wp2_with fail
    refine (text_c _ (he.gr HG7.out) gr false (u % v) HR7.out HR.out).mono ?_
    rintro e w8 ⟨rfl, hg8⟩
    go_wp2_with fail
    go_ret3
    exact ⟨rfl, HG7.out.trans hg8⟩
end Go.Proofs.YtlmdpamehhcblaaGreatDoor
