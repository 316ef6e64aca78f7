import Derived.Test.YtlmdpamehhcblaaGreatDoorWp
/- Contracts of package whole: beyond, estimate. -/
namespace Go.Proofs.YtlmdpamehhcblaaGreatDoor
open Go.RowKit
open YtlmdpamehhcblaaGreatDoorV (wd nw B upd B_eq)

/-- The sign of a comparison of magnitudes. -/
def Cmp (x y : Nat) (r : Int) : Prop := (r < 0 ↔ x < y) ∧ (0 < r ↔ y < x)
def Beyond (x y : Nat) (w : World) (e : Ending) (w' : World) : Prop := ∃ r : Int, e = .returned (.int .i64 r) ∧ Cmp x y r ∧ Gr w w'
theorem cmp_nw {x y : Nat} (h : nw x ≠ nw y) : Cmp x y ((nw x : Int) - nw y) := by
  rcases Nat.lt_or_gt_of_ne h with h | h
  · have := YtlmdpamehhcblaaGreatDoorV.lt_of_nw h; constructor <;> omega
  · have := YtlmdpamehhcblaaGreatDoorV.lt_of_nw h; constructor <;> omega
theorem cmp_wd {x y i : Nat} (h : x / B ^ (i + 1) = y / B ^ (i + 1)) (hw : wd x i ≠ wd y i) : Cmp x y ((wd x i : Int) - wd y i) := by
  rcases Nat.lt_or_gt_of_ne hw with hw | hw
  · have := YtlmdpamehhcblaaGreatDoorV.lt_of_word h hw; constructor <;> omega
  · have := YtlmdpamehhcblaaGreatDoorV.lt_of_word h.symm hw; constructor <;> omega
theorem cmp_eq {x y : Nat} (h : x = y) : Cmp x y 0 := by subst h; constructor <;> omega

set_option maxHeartbeats 2000000 in
set_option maxRecDepth 100000 in
theorem beyond_c (w : World) (gx gy : Nat) (lx ly : Bool) (X Y : Nat) (hx : IsW w gx lx X) (hy : IsW w gy ly Y) :
    Calls Tryz.prog 181 #[.pointer (some ⟨gx, 0, none⟩), .pointer (some ⟨gy, 0, none⟩)] w (Beyond X Y w) := by
  have c1 := hx.1.c1
  have d1 := hy.1.c1
  have b1 := hx.bd
  have b2 := hy.bd
  have Hx := Lib.hid hx; have Hy := Lib.hid hy; clear hx hy
  by_cases hn : nw X = nw Y
  · have hnb : ((nw X : Int) != (nw Y : Int)) = false := by rw [bne_eq_false_iff_eq]; omega
    have HN := Lib.hid hn; clear hn
    go_enter Tryz.func181, Tryz.ntmps181
    go_wp2_with fail
    go_quiet (fail)
    go_wp2_with fail
    go_loopg [5] (nw X) (fun k i wr => i = .int .i64 ((k : Int) - 1) ∧ k ≤ nw X ∧ Aside (X / B ^ k = Y / B ^ k) ∧ Aside (IsW wr gx lx X ∧ IsW wr gy ly Y ∧ Gr w wr))
    case atStart => exact ⟨by go_num, Nat.le_refl _, YtlmdpamehhcblaaGreatDoorV.div_top_eq HN.out, Hx.out, Hy.out, (Gr.refl w).drewN _⟩
    case round =>
      obtain ⟨rfl, hk, E, A⟩ := hrel
      by_cases h0 : gk = 0
      · subst h0
        go_wp2_with fail
        go_ret
        exact ⟨0, rfl, cmp_eq (by have := E.out; simpa using this), A.out.2.2⟩
      · obtain ⟨m, rfl⟩ : ∃ m, gk = m + 1 := ⟨gk - 1, by omega⟩
        have cx := A.out.1.1.cw m (by omega)
        have cy := A.out.2.1.1.cw m (by omega)
        have wx := YtlmdpamehhcblaaGreatDoorV.wd_lt X m
        have wy := YtlmdpamehhcblaaGreatDoorV.wd_lt Y m
        have hX : wd X m < 1000000000 := by rw [B_eq] at wx; exact wx
        have hY : wd Y m < 1000000000 := by rw [B_eq] at wy; exact wy
        clear wx wy
        by_cases hw : wd X m = wd Y m
        · have hwb : ((wd X m : Int) != (wd Y m : Int)) = false := by rw [bne_eq_false_iff_eq]; omega
          have HW := Lib.hid hw; clear hw
          go_wp2_with fail
          go_quiet (fail)
          go_wp2_with fail
          go_roundg m
          case measure => omega
          case rel => exact ⟨by go_num, by omega, YtlmdpamehhcblaaGreatDoorV.div_eq_step E.out HW.out, A.out.1, A.out.2.1, A.out.2.2.drewN _⟩
        · have hwb : ((wd X m : Int) != (wd Y m : Int)) = true := by rw [bne_iff_ne]; omega
          go_wp2_with fail
          go_quiet (fail)
          go_wp2_with fail
          go_quiet (fail)
          go_wp2_with fail
          go_ret
          exact ⟨_, rfl, cmp_wd E.out hw, (A.out.2.2.drewN _).drewN _⟩
  · have hnb : ((nw X : Int) != (nw Y : Int)) = true := by rw [bne_iff_ne]; omega
    go_enter Tryz.func181, Tryz.ntmps181
    go_wp2_with fail
    go_quiet (fail)
    go_wp2_with fail
    go_quiet (fail)
    go_wp2_with fail
    go_ret
    exact ⟨_, rfl, cmp_nw hn, ((Gr.refl w).drewN _).drewN _⟩

/-- Word i, or 0 outside of the number. -/
def topv (v : Nat) (i : Int) : Int := if i < 0 then 0 else (wd v i.toNat : Int)
set_option maxHeartbeats 1000000 in
set_option maxRecDepth 100000 in
theorem top_c (w : World) (g : Nat) (l : Bool) (v : Nat) (i : Int) (h : IsW w g l v) (h0 : -1 ≤ i) (h1 : i ≤ 232) :
    Calls Tryz.prog 230 #[.pointer (some ⟨g, 0, none⟩), .int .i64 i] w fun e w' => e = .returned (.int .i64 (topv v i)) ∧ w' = w := by
  have c1 := h.1.c1
  have b1 := h.bd
  have H := Lib.hid h; clear h
  by_cases hi : i < 0
  · have e : topv v i = 0 := by unfold topv; rw [if_pos hi]
    rw [e]; clear e
    go_enter Tryz.func230, Tryz.ntmps230
    go_wp2
    go_ret
    exact ⟨rfl, rfl⟩
  · obtain ⟨j, rfl⟩ := Int.eq_ofNat_of_zero_le (show 0 ≤ i by omega)
    have e : topv v (j : Int) = (wd v j : Int) := by unfold topv; rw [if_neg hi, Int.toNat_natCast]
    rw [e]; clear e
    by_cases hn : nw v ≤ j
    · rw [YtlmdpamehhcblaaGreatDoorV.wd_zero_of hn]
      go_enter Tryz.func230, Tryz.ntmps230
      go_wp2
      go_ret
      exact ⟨rfl, rfl⟩
    · have cw := H.out.1.cw j (by omega)
      go_enter Tryz.func230, Tryz.ntmps230
      go_wp2
      go_ret
      exact ⟨rfl, rfl⟩
theorem topv_nat (v j : Nat) : topv v (j : Int) = (wd v j : Int) := by unfold topv; rw [if_neg (by omega), Int.toNat_natCast]

/-- How often y may be taken away from x: once at least, and never too often. -/
def Est (x y : Nat) (w : World) (e : Ending) (w' : World) : Prop := ∃ k : Int, e = .returned (.int .i64 k) ∧ 1 ≤ k ∧ k ≤ 999999999 ∧ k * y ≤ x ∧ Gr w w'
theorem est_one {x y : Nat} (hxy : y ≤ x) : (1 : Int) * y ≤ x := by omega
theorem est_many {x y : Nat} (hy : y ≠ 0) (hxy : y ≤ x) {a b k : Int} (ha : a = (wd x (nw y) : Int) * 1000000000 + wd x (nw y - 1)) (hb : b = (wd y (nw y - 1) : Int) + if 1 < nw y then 1 else 0) (hb0 : 0 < b) (hk0 : 0 ≤ k) (hk : k ≤ a / b) : k * y ≤ x := by
  obtain ⟨k, rfl⟩ := Int.eq_ofNat_of_zero_le hk0
  have h1 : (k : Int) * b ≤ a := Int.le_trans (Int.mul_le_mul_of_nonneg_right hk (by omega)) (Int.ediv_mul_le a (by omega))
  have h2 : k * (wd y (nw y - 1) + if 1 < nw y then 1 else 0) ≤ wd x (nw y) * B + wd x (nw y - 1) := by
    rw [B_eq]
    have e : ((wd y (nw y - 1) + if 1 < nw y then 1 else 0 : Nat) : Int) = b := by rw [hb]; split <;> simp
    have : ((k * (wd y (nw y - 1) + if 1 < nw y then 1 else 0) : Nat) : Int) ≤ ((wd x (nw y) * 1000000000 + wd x (nw y - 1) : Nat) : Int) := by
      rw [Int.natCast_mul, e, Int.natCast_add, Int.natCast_mul]
      rw [ha] at h1
      exact h1
    exact Int.ofNat_le.1 this
  have h3 := YtlmdpamehhcblaaGreatDoorV.est_le hy hxy (k := k) (.inl h2)
  rw [← Int.natCast_mul]
  exact Int.ofNat_le.2 h3
set_option maxHeartbeats 1000000 in
set_option maxRecDepth 100000 in
theorem estimate_c (w : World) (gx gy : Nat) (lx ly : Bool) (X Y : Nat) (hx : IsW w gx lx X) (hy : IsW w gy ly Y) (hy0 : Y ≠ 0) (hxy : Y ≤ X) (hb : nw Y ≤ 231) :
    Calls Tryz.prog 182 #[.pointer (some ⟨gx, 0, none⟩), .pointer (some ⟨gy, 0, none⟩)] w (Est X Y w) := by
  have d1 := hy.1.c1
  have b1 := hx.bd
  have n1 : 1 ≤ nw Y := by have := YtlmdpamehhcblaaGreatDoorV.nw_ne_zero hy0; omega
  have Hx := Lib.hid hx; have Hy := Lib.hid hy; clear hx hy
  have H0 := Lib.hid hy0; clear hy0
  go_enter Tryz.func182, Tryz.ntmps182
  go_wp2_with fail
  have t1 := topv_nat X (nw Y)
  have t2 := topv_nat X (nw Y - 1)
  have t3 := topv_nat Y (nw Y - 1)
  rw [show ((nw Y - 1 : Nat) : Int) = (nw Y : Int) - 1 by omega] at t2 t3
  have x1 : wd X (nw Y) < 1000000000 := by have := YtlmdpamehhcblaaGreatDoorV.wd_lt X (nw Y); rw [B_eq] at this; exact this
  have x2 : wd X (nw Y - 1) < 1000000000 := by have := YtlmdpamehhcblaaGreatDoorV.wd_lt X (nw Y - 1); rw [B_eq] at this; exact this
  have x3 : wd Y (nw Y - 1) < 1000000000 := by have := YtlmdpamehhcblaaGreatDoorV.wd_lt Y (nw Y - 1); rw [B_eq] at this; exact this
  have x4 : 1 ≤ wd Y (nw Y - 1) := by have := YtlmdpamehhcblaaGreatDoorV.wd_top H0.out; omega
  go_quiet ((first | (with_reducible exact Calls.quiet_of_same (top_c _ gx lx X _ (Hx.out.drewN _) (by omega) (by omega))) | (with_reducible exact Calls.quiet_of_same (top_c _ gy ly Y _ (Hy.out.drewN _) (by omega) (by omega)))))
  go_wp2_with fail
  all_goals go_ret
  all_goals first
    | exact ⟨1, rfl, by omega, by omega, est_one hxy, (Gr.refl w).drewN _⟩
    | exact ⟨_, rfl, by omega, by omega, est_many H0.out hxy (a := (wd X (nw Y) : Int) * 1000000000 + wd X (nw Y - 1)) (b := (wd Y (nw Y - 1) : Int) + 1) rfl (by rw [if_pos (by omega)]) (by omega) (by omega) (by omega), (Gr.refl w).drewN _⟩
    | exact ⟨_, rfl, by omega, by omega, est_many H0.out hxy (a := (wd X (nw Y) : Int) * 1000000000 + wd X (nw Y - 1)) (b := (wd Y (nw Y - 1) : Int)) rfl (by rw [if_neg (by omega)]; omega) (by omega) (by omega) (by omega), (Gr.refl w).drewN _⟩
end Go.Proofs.YtlmdpamehhcblaaGreatDoor
