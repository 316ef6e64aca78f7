import Derived.Test.YtlmdpamehhcblaaGreatDoorWc
/- Contracts of package whole: carry. -/
namespace Go.Proofs.YtlmdpamehhcblaaGreatDoor
open Go.RowKit
open YtlmdpamehhcblaaGreatDoorV (wd nw B upd CInv B_eq)

theorem mul_word_bd {k : Int} {d : Nat} (h0 : -(B : Int) < k) (h1 : k < (B : Int)) (hd : d < B) : -1000000000000000000 ≤ k * (d : Int) ∧ k * (d : Int) ≤ 1000000000000000000 := by
  rw [B_eq] at *
  have x1 : -(1000000000 : Int) * (d : Int) ≤ k * (d : Int) := Int.mul_le_mul_of_nonneg_right (by simp at h0; omega) (by omega)
  have x2 : k * (d : Int) ≤ (1000000000 : Int) * (d : Int) := Int.mul_le_mul_of_nonneg_right (by simp at h1; omega) (by omega)
  omega
/-- The numbers of one round: q is Go's quotient, r Go's rest. -/
theorem carry_nums (S : Int) (h0 : -1000000010000000000 ≤ S) (h1 : S ≤ 1000000010000000000) : -2000000000 ≤ S.tdiv 1000000000 ∧ S.tdiv 1000000000 ≤ 2000000000 ∧ -1000000000 < S - S.tdiv 1000000000 * 1000000000 ∧ S - S.tdiv 1000000000 * 1000000000 < 1000000000 := by
  have h2 := Int.mul_tdiv_add_tmod S 1000000000
  have h3 : S.tmod 1000000000 < 1000000000 := Int.tmod_lt_of_pos S (by decide)
  have h4 : -1000000000 < S.tmod 1000000000 := by
    have := Int.lt_tmod_of_pos S (show (0 : Int) < 1000000000 by decide)
    omega
  omega
/-- What carry's loop keeps. -/
def CRel (X Y : Nat) (k : Int) (s gx gy : Nat) (lx ly : Bool) (w : World) (j : Nat) (rest : Int) (f : Nat → Int) (n : Nat) (wr : World) : Prop :=
  CInv X Y k s j rest f n ∧ WB wr gx lx n f ∧ WB wr gy ly (nw Y) (fun j => (wd Y j : Int)) ∧ Fr gx w wr
theorem CRel.step {X Y : Nat} {k : Int} {s gx gy : Nat} {lx ly : Bool} {w : World} {j : Nat} {rest : Int} {f : Nat → Int} {n : Nat} {wr : World} (h : CRel X Y k s gx gy lx ly w j rest f n wr)
    (hne : gy ≠ gx) (hk0 : -(B : Int) < k) (hk1 : k < (B : Int)) (hr : j + s < 232) {q r m : Int} (hq : q * 1000000000 + r = f (j + s) + rest + k * (wd Y j : Nat)) (hr0 : 0 ≤ r) (hr1 : r < 1000000000) (hm : m = (max n (j + s + 1) : Nat)) :
    CRel X Y k s gx gy lx ly w (j + 1) q (upd f (j + s) r) (max n (j + s + 1)) ((wr.setCell ⟨gx, 2 + (j + s), none⟩ (.int .i64 r)).setCell ⟨gx, 1, none⟩ (.int .i64 m)) := by
  obtain ⟨h1, h2, h3, h4⟩ := h
  refine ⟨h1.step hk0 hk1 hr (by rw [B_eq]; exact hq) hr0 (by rw [B_eq]; exact hr1), ?_, (h3.far hne _).far hne _, (h4.setCell rfl _).setCell rfl _⟩
  rw [hm]
  exact (h2.setw (j + s) hr r).set1 _

set_option maxHeartbeats 2000000 in
set_option maxRecDepth 100000 in
theorem carry_loop (w : World) (gx gy : Nat) (lx ly : Bool) (X Y : Nat) (k : Int) (s V : Nat) (hx : IsW w gx lx X) (hy : IsW w gy ly Y) (hne : gy ≠ gx) (hs : nw Y + s ≤ 232) (hk0 : -1000000000 < k) (hk1 : k < 1000000000)
    (hV : (V : Int) = X + k * Y * (B ^ s : Nat)) (hVB : V < B ^ 232) :
    Calls Tryz.prog 180 #[.pointer (some ⟨gx, 0, none⟩), .pointer (some ⟨gy, 0, none⟩), .int .i64 k, .int .i64 s] w fun e w' => e = .returned (.tuple #[]) ∧ IsW w' gx lx V ∧ Fr gx w w' := by
  have hs2 : s ≤ 232 := by omega
  have Hk0 := Lib.hid (show -(B : Int) < k by rw [B_eq]; exact hk0)
  have Hk1 := Lib.hid (show k < (B : Int) by rw [B_eq]; exact hk1)
  have HV := Lib.hid hV; have HVB := Lib.hid hVB; clear hV hVB
  have Hx := Lib.hid hx; have Hy := Lib.hid hy; clear hx hy
  have hyb := Hy.out.bd
  have Hroom : Hid (0 ≤ (X : Int) + k * Y * (B ^ s : Nat) ∧ (X : Int) + k * Y * (B ^ s : Nat) < (B ^ 232 : Nat)) := by
    show _ ∧ _
    rw [← HV.out]; exact ⟨by omega, Int.ofNat_lt.2 HVB.out⟩
  go_enter Tryz.func180, Tryz.ntmps180
  go_wp2_with fail
  go_loopg [8, 9] 233 (fun gk r i wr => ∃ (j : Nat) (rest : Int) (f : Nat → Int) (n : Nat), gk + j = 233 ∧ i = .int .i64 j ∧ r = .int .i64 rest ∧ Aside (CRel X Y k s gx gy lx ly w j rest f n wr))
  case atStart => exact ⟨0, 0, _, _, rfl, rfl, rfl, CInv.start k s Hx.out.bd, Hx.out.1, Hy.out.1, Fr.refl _ _⟩
  case round =>
    obtain ⟨j, rest, f, n, hgk, rfl, rfl, A⟩ := hrel
    have HG := Lib.hid hgk; clear hgk
    have c1 := A.out.2.1.c1
    have y1 := A.out.2.2.1.c1
    have f1 := A.out.2.1.fz 1
    have hn := A.out.1.le
    have r0 := A.out.1.r0
    have r1 := A.out.1.r1
    have hr0 : -1000000000 ≤ rest := by rw [B_eq] at r0; exact r0
    have hr1 : rest ≤ 1000000000 := by rw [B_eq] at r1; exact r1
    clear r0 r1
    by_cases hgo : j < nw Y ∨ rest ≠ 0
    · have hroom := A.out.1.room hs Hroom.out.1 Hroom.out.2 hgo
      have cw := A.out.2.1.cw (j + s) hroom
      have fw := A.out.2.1.fz (2 + (j + s))
      have a0 := A.out.1.lo (j + s)
      have a1 : f (j + s) < 1000000000 := by have := A.out.1.hi (j + s); rw [B_eq] at this; exact this
      by_cases hj : j < nw Y
      · have yw := A.out.2.2.1.cw j (by omega)
        have m0 := (mul_word_bd Hk0.out Hk1.out (YtlmdpamehhcblaaGreatDoorV.wd_lt Y j)).1
        have m1 := (mul_word_bd Hk0.out Hk1.out (YtlmdpamehhcblaaGreatDoorV.wd_lt Y j)).2
        have q0 := carry_nums (f (j + s) + rest + k * (wd Y j : Int)) (by omega) (by omega)
        obtain ⟨q0, q1, q2, q3⟩ := q0
        by_cases hneg : f (j + s) + rest + k * (wd Y j : Int) - (f (j + s) + rest + k * (wd Y j : Int)).tdiv 1000000000 * 1000000000 < 0
        · go_wp2_with fail
          all_goals
            go_roundg (gk - 1)
            case measure => have := HG.out; omega
            case rel => exact ⟨j + 1, _, _, _, by have := HG.out; omega, by go_num, rfl, A.out.step hne Hk0.out Hk1.out hroom (by omega) (by omega) (by omega) (by omega)⟩
        · go_wp2_with fail
          all_goals
            go_roundg (gk - 1)
            case measure => have := HG.out; omega
            case rel => exact ⟨j + 1, _, _, _, by have := HG.out; omega, by go_num, rfl, A.out.step hne Hk0.out Hk1.out hroom (by omega) (by omega) (by omega) (by omega)⟩
      · have hrest : (rest != 0) = true := by rw [bne_iff_ne]; omega
        have HZ := Lib.hid (YtlmdpamehhcblaaGreatDoorV.wd_zero_of (v := Y) (i := j) (by omega))
        have q0 := carry_nums (f (j + s) + rest) (by omega) (by omega)
        obtain ⟨q0, q1, q2, q3⟩ := q0
        by_cases hneg : f (j + s) + rest - (f (j + s) + rest).tdiv 1000000000 * 1000000000 < 0
        · go_wp2_with fail
          all_goals
            go_roundg (gk - 1)
            case measure => have := HG.out; omega
            case rel => exact ⟨j + 1, _, _, _, by have := HG.out; omega, by go_num, rfl, A.out.step hne Hk0.out Hk1.out hroom (by rw [HZ.out]; simp only [Int.natCast_zero, Int.mul_zero]; omega) (by omega) (by omega) (by omega)⟩
        · go_wp2_with fail
          all_goals
            go_roundg (gk - 1)
            case measure => have := HG.out; omega
            case rel => exact ⟨j + 1, _, _, _, by have := HG.out; omega, by go_num, rfl, A.out.step hne Hk0.out Hk1.out hroom (by rw [HZ.out]; simp only [Int.natCast_zero, Int.mul_zero]; omega) (by omega) (by omega) (by omega)⟩
    · obtain ⟨hj, rfl⟩ : ¬ j < nw Y ∧ rest = 0 := by omega
      have D := A.out.1.done (by omega) HV.out
      have HD := Lib.hid D; clear D
      go_wp2_with fail
      refine (trimmed_c _ gx lx n f A.out.2.1 hn).mono ?_
      rintro e w' ⟨rfl, m, hm1, hm2, hm3, hm4, hm5⟩
      go_wp2
      go_end0
      refine ⟨rfl, ⟨?_, HVB.out⟩, A.out.2.2.2.trans hm5⟩
      obtain ⟨d1, d2, d3⟩ := HD.out
      have e : m = nw V := YtlmdpamehhcblaaGreatDoorV.nw_eq (fun i hi => by
        by_cases h : n ≤ i
        · exact d2 i h
        · have := d1 i (by omega); rw [hm3 i hi (by omega)] at this; omega) (fun h => by
        have := d1 (m - 1) (by omega); have h4 := hm4 h; omega)
      rw [← e]
      exact hm2.ext d1
end Go.Proofs.YtlmdpamehhcblaaGreatDoor
