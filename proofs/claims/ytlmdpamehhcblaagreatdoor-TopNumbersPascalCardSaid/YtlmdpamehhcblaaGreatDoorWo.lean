import Derived.Test.YtlmdpamehhcblaaGreatDoorWn
/- Contracts of package whole: Quo, Rem, Gcd. -/
namespace Go.Proofs.YtlmdpamehhcblaaGreatDoor
open Go.RowKit
open Go.Lib (itoa decDigits)
open YtlmdpamehhcblaaGreatDoorV (wd nw B upd B_eq)

theorem parted_c (w : World) (he : Env w) (m n : Int) (hm : m.natAbs < YtlmdpamehhcblaaGreatDoorD.Lim) (hn : n.natAbs < YtlmdpamehhcblaaGreatDoorD.Lim) (h0 : 0 < n) (hd : 0 ≤ m ∨ n ∣ m) :
    Calls Tryz.prog 201 #[.string (bs (itoa m)), .string (bs (itoa n))] w (RetQ (m / n) (m % n) w) := by
  cases h1 : isShort m with
  | false => exact parted_big w he m n hm hn h0 hd (.inl h1)
  | true =>
    cases h2 : isShort n with
    | false => exact parted_big w he m n hm hn h0 hd (.inr h2)
    | true => exact parted_small w he m n hm hn h0 hd h1 h2
theorem quo_lim {m n : Int} (hm : m.natAbs < YtlmdpamehhcblaaGreatDoorD.Lim) (h0 : 0 < n) (hd : 0 ≤ m ∨ n ∣ m) : (m / n).natAbs < YtlmdpamehhcblaaGreatDoorD.Lim := by
  rw [← (quo_text h0 hd).1, wint_abs]
  exact Nat.lt_of_le_of_lt (Nat.div_le_self _ _) hm
set_option maxHeartbeats 1000000 in
theorem Quo_c (w : World) (he : Env w) (m n : Int) (hm : m.natAbs < YtlmdpamehhcblaaGreatDoorD.Lim) (hn : n.natAbs < YtlmdpamehhcblaaGreatDoorD.Lim) (h0 : 0 < n) (hd : 0 ≤ m ∨ n ∣ m) :
    Calls Tryz.prog 137 #[.string (bs (itoa m)), .string (bs (itoa n))] w (RetI (m / n) w) := by
  have HP := Lib.hid (parted_c w he m n hm hn h0 hd)
  have HC := Lib.hid (fun w => Check_int w (m / n) (quo_lim hm h0 hd))
  clear hm hn h0 hd
  unfold RetI
  unfold RetQ at HP
  generalize bs (itoa (m / n)) = q at *
  generalize bs (itoa (m % n)) = r at *
  generalize bs (itoa m) = s at *
  generalize bs (itoa n) = t at *
  go_enter Tryz.func137, Tryz.ntmps137
  go_wp2_with fail
  refine HP.out.mono ?_
  rintro e w1 ⟨rfl, hg1⟩
  go_wp2_with fail
  refine (HC.out _).mono ?_
  rintro e w2 ⟨rfl, hg2⟩
  go_wp2_with fail
  go_ret2
  exact ⟨rfl, hg1.trans hg2⟩
set_option maxHeartbeats 1000000 in
theorem Rem_c (w : World) (he : Env w) (m n : Int) (hm : m.natAbs < YtlmdpamehhcblaaGreatDoorD.Lim) (hn : n.natAbs < YtlmdpamehhcblaaGreatDoorD.Lim) (h0 : 0 < n) (hd : 0 ≤ m ∨ n ∣ m) :
    Calls Tryz.prog 138 #[.string (bs (itoa m)), .string (bs (itoa n))] w (RetI (m % n) w) := by
  have HP := Lib.hid (parted_c w he m n hm hn h0 hd)
  clear hm hn h0 hd
  unfold RetI
  unfold RetQ at HP
  generalize bs (itoa (m / n)) = q at *
  generalize bs (itoa (m % n)) = r at *
  generalize bs (itoa m) = s at *
  generalize bs (itoa n) = t at *
  go_enter Tryz.func138, Tryz.ntmps138
  go_wp2_with fail
  refine HP.out.mono ?_
  rintro e w1 ⟨rfl, hg1⟩
  go_wp2_with fail
  go_ret2
  exact ⟨rfl, hg1⟩

theorem word_one {v : Nat} (h : nw v ≤ 1) : wd v 0 = v := YtlmdpamehhcblaaGreatDoorV.wd_one (by have := (YtlmdpamehhcblaaGreatDoorV.nw_le_iff v 1).1 h; rwa [Nat.pow_one] at this)
set_option maxHeartbeats 4000000 in
set_option maxRecDepth 100000 in
/-- The greatest common divisor; neither is asked to be other than 0. -/
theorem Gcd_c (w : World) (he : Env w) (m n : Int) (hm : m.natAbs < YtlmdpamehhcblaaGreatDoorD.Lim) (hn : n.natAbs < YtlmdpamehhcblaaGreatDoorD.Lim) :
    Calls Tryz.prog 184 #[.string (bs (itoa m)), .string (bs (itoa n))] w (RetI (Nat.gcd m.natAbs n.natAbs : Nat) w) := by
  have HA := Lib.hid (fun w g h0 h1 => all2_c w g m n h0 h1 hm hn)
  have HR1 := Lib.hid (fun w => read_c w m hm)
  have HR2 := Lib.hid (fun w => read_c w n hn)
  have HM := Lib.hid hm; have HN := Lib.hid hn
  clear hm hn
  unfold RetI
  generalize decide (m < 0) = l1 at *
  generalize decide (n < 0) = l2 at *
  generalize m.natAbs = u at *
  generalize n.natAbs = v at *
  generalize bs (itoa m) = s at *
  generalize bs (itoa n) = t at *
  go_enter Tryz.func184, Tryz.ntmps184
  go_wp2_with fail
  refine (HA.out _ _ (new2 w _ _ _).1 (new2 w _ _ _).2).mono ?_
  rintro e w1 ⟨rfl, hg1⟩
  have HG1 := Lib.hid (((Gr.refl w).alloc _).trans hg1)
  clear hg1
  go_wp2_with fail
  refine (HR1.out _).mono ?_
  rintro e w3 ⟨gx, rfl, hx0, hx, hg3⟩
  have HG3 := Lib.hid (HG1.out.trans hg3)
  have HX := Lib.hid hx
  have HX0 := Lib.hid (Nat.le_trans HG1.out.size hx0)
  clear hg3 hx hx0
  go_wp2_with fail
  refine (HR2.out _).mono ?_
  rintro e w4 ⟨gy, rfl, hy0, hy, hg4⟩
  have HG4 := Lib.hid (HG3.out.trans hg4)
  have HX4 := Lib.hid (HX.out.grow hg4)
  have HY := Lib.hid hy
  have HY0 := Lib.hid (Nat.le_trans HG3.out.size hy0)
  clear hg4 hy hy0
  go_wp2_with fail
  go_loopg [7, 8] v (fun b px py wr => ∃ (gx gy : Nat) (lx ly : Bool) (a : Nat), px = .pointer (some ⟨gx, 0, none⟩) ∧ py = .pointer (some ⟨gy, 0, none⟩) ∧ Aside ((w.heap.size ≤ gx ∧ w.heap.size ≤ gy) ∧ IsW wr gx lx a ∧ IsW wr gy ly b ∧ Nat.gcd a b = Nat.gcd u v ∧ a < YtlmdpamehhcblaaGreatDoorD.Lim ∧ b < YtlmdpamehhcblaaGreatDoorD.Lim ∧ Gr w wr))
  case atStart => exact ⟨gx, gy, l1, l2, u, rfl, rfl, ⟨HX0.out, HY0.out⟩, HX4.out, HY.out, rfl, HM.out, HN.out, HG4.out⟩
  case round =>
    clear HG1 HG3 HG4 HX HX0 HX4 HY HY0 HR1 HR2 HA
    obtain ⟨gx, gy, lx, ly, a, rfl, rfl, A⟩ := hrel
    have y1 := A.out.2.2.1.1.c1
    have x1 := A.out.2.1.1.c1
    have x0 := A.out.2.1.1.c0
    have xf := A.out.2.1.1.fz 0
    have nx := A.out.2.1.bd
    have ny := A.out.2.2.1.bd
    by_cases hb0 : nw gk = 0
    · have e0 : gk = 0 := YtlmdpamehhcblaaGreatDoorV.eq_zero_of_nw hb0
      have hgcd : a = Nat.gcd u v := by have := A.out.2.2.2.1; rw [e0, Nat.gcd_zero_right] at this; exact this
      rw [hb0] at y1
      have HGC := Lib.hid hgcd
      clear e0 hgcd hb0
      go_wp2_with fail
      have hW := (A.out.2.1.1.set0 false)
      refine (text_c _ (he.gr (A.out.2.2.2.2.2.2.setCell (p := ⟨gx, 0, none⟩) A.out.1.1 _)) gx false a ⟨hW, A.out.2.1.2⟩ A.out.2.2.2.2.1).mono ?_
      rintro e w5 ⟨rfl, hg5⟩
      have HG5 := Lib.hid ((A.out.2.2.2.2.2.2.setCell (p := ⟨gx, 0, none⟩) A.out.1.1 (.bool false)).trans hg5)
      clear hg5 hW
      rw [wtext_wint]
      have e1 : wint false a = ((Nat.gcd u v : Nat) : Int) := by rw [← HGC.out]; rfl
      rw [e1]
      go_wp2_with fail
      go_ret2
      exact ⟨rfl, HG5.out⟩
    · obtain ⟨k, hk⟩ : ∃ k, nw gk = k + 1 := ⟨nw gk - 1, by omega⟩
      rw [hk] at y1
      by_cases h1 : nw a ≤ 1 ∧ nw gk ≤ 1
      · obtain ⟨h1, h2⟩ := h1
        have ax := A.out.2.1.1.cw 0 (by omega)
        have ay := A.out.2.2.1.1.cw 0 (by omega)
        rw [word_one h1] at ax
        rw [word_one h2] at ay
        have ab : a < 1000000000 := by have := (YtlmdpamehhcblaaGreatDoorV.nw_le_iff a 1).1 h1; rw [Nat.pow_one, B_eq] at this; exact this
        have bb : gk < 1000000000 := by have := (YtlmdpamehhcblaaGreatDoorV.nw_le_iff gk 1).1 h2; rw [Nat.pow_one, B_eq] at this; exact this
        have hk0 : k = 0 := by omega
        subst hk0
        clear hk hb0
        go_wp2_with fail
        go_quiet (fail)
        have HG5 := Lib.hid (A.out.2.2.2.2.2.2.drewN nq)
        have HE := Lib.hid A.out.2.2.2.1
        clear A y1 x1 x0 xf ax ay nx ny
        generalize wr.drewN nq = w5 at *
        go_wp2_with fail
        go_loopg [9, 10] gk (fun N pm pn wi => ∃ M : Nat, pm = .int .i64 M ∧ pn = .int .i64 N ∧ M < 1000000000 ∧ N < 1000000000 ∧ Aside (Nat.gcd M N = Nat.gcd u v ∧ Gr w wi))
        case atStart => exact ⟨a, rfl, rfl, ab, bb, HE.out, HG5.out⟩
        case round =>
          obtain ⟨M, rfl, rfl, hM, hN, A⟩ := hrel
          by_cases hz : gk = 0
          · subst hz
            have e1 : M = Nat.gcd u v := by have := A.out.1; rwa [Nat.gcd_zero_right] at this
            have HE1 := Lib.hid e1
            have HO := Lib.hid (Of_c _ (he.gr A.out.2) (M : Int) (by omega) (by omega))
            clear e1 HE
            go_wp2_with fail
            refine HO.out.mono ?_
            rintro e w6 ⟨rfl, hg6⟩
            rw [HE1.out]
            go_wp2_with fail
            go_ret2
            exact ⟨rfl, A.out.2.trans hg6⟩
          · have hnz : ((gk : Int) != 0) = true := by rw [bne_iff_ne]; omega
            have hnz2 : ((gk : Int) == 0) = false := by rw [beq_eq_false_iff_ne]; omega
            have hml : M % gk < gk := Nat.mod_lt _ (by omega)
            have HM := Lib.hid hml
            clear hml
            go_wp2_with fail
            go_quiet (fail)
            go_wp2_with fail
            go_roundg (M % gk)
            case measure => exact HM.out
            case rel =>
              refine ⟨gk, rfl, ?_, hN, by have := HM.out; omega, ?_, A.out.2.drewN _⟩
              · go_num
              · rw [← A.out.1, Nat.gcd_comm M gk, Nat.gcd_rec gk M, Nat.gcd_comm]
      · have h2 : ¬ (nw a ≤ 1 ∧ nw gk ≤ 1) := h1
        have hb1 : gk ≠ 0 := fun e => hb0 (by rw [e, YtlmdpamehhcblaaGreatDoorV.nw_zero])
        have N1 := nw_le_of A.out.2.2.2.2.1
        have N2 := nw_le_of A.out.2.2.2.2.2.1
        have hmod : a % gk < gk := Nat.mod_lt _ (by omega)
        have key2 : ¬ nw a ≤ 1 ∨ (nw a ≤ 1 ∧ ¬ k + 1 ≤ 1) := by omega
        have HB1 := Lib.hid hb1
        have HMod := Lib.hid hmod
        clear h1 h2 hb1 hmod hb0
        rcases key2 with kk | ⟨kk1, kk2⟩
        · go_wp2_with fail
          refine (divided_c _ gx gy lx ly a gk A.out.2.1 A.out.2.2.1 HB1.out (by omega) (by omega)).mono ?_
          rintro e w5 ⟨gq, gr, rfl, hq0, hr0, hqr, hq, hr, hg5⟩
          have HG5 := Lib.hid (A.out.2.2.2.2.2.2.trans hg5)
          have HY5 := Lib.hid (A.out.2.2.1.grow hg5)
          have HR5 := Lib.hid hr
          have HL := Lib.hid A.out.2.2.2.2.2.1
          have HE := Lib.hid A.out.2.2.2.1
          have HS := Lib.hid (show w.heap.size ≤ gy ∧ w.heap.size ≤ gr from ⟨A.out.1.2, Nat.le_trans A.out.2.2.2.2.2.2.size hr0⟩)
          clear hg5 hq hr hq0 hr0 hqr A y1 x1 x0 xf
          go_wp2_with fail
          go_roundg (a % gk)
          case measure => exact HMod.out
          case rel => exact ⟨gy, gr, ly, false, gk, rfl, rfl, HS.out, HY5.out, HR5.out, by rw [← HE.out, Nat.gcd_comm a gk, Nat.gcd_rec gk a, Nat.gcd_comm], HL.out, Nat.lt_trans HMod.out HL.out, HG5.out⟩
        · go_wp2_with fail
          refine (divided_c _ gx gy lx ly a gk A.out.2.1 A.out.2.2.1 HB1.out (by omega) (by omega)).mono ?_
          rintro e w5 ⟨gq, gr, rfl, hq0, hr0, hqr, hq, hr, hg5⟩
          have HG5 := Lib.hid (A.out.2.2.2.2.2.2.trans hg5)
          have HY5 := Lib.hid (A.out.2.2.1.grow hg5)
          have HR5 := Lib.hid hr
          have HL := Lib.hid A.out.2.2.2.2.2.1
          have HE := Lib.hid A.out.2.2.2.1
          have HS := Lib.hid (show w.heap.size ≤ gy ∧ w.heap.size ≤ gr from ⟨A.out.1.2, Nat.le_trans A.out.2.2.2.2.2.2.size hr0⟩)
          clear hg5 hq hr hq0 hr0 hqr A y1 x1 x0 xf
          go_wp2_with fail
          go_roundg (a % gk)
          case measure => exact HMod.out
          case rel => exact ⟨gy, gr, ly, false, gk, rfl, rfl, HS.out, HY5.out, HR5.out, by rw [← HE.out, Nat.gcd_comm a gk, Nat.gcd_rec gk a, Nat.gcd_comm], HL.out, Nat.lt_trans HMod.out HL.out, HG5.out⟩
end Go.Proofs.YtlmdpamehhcblaaGreatDoor
