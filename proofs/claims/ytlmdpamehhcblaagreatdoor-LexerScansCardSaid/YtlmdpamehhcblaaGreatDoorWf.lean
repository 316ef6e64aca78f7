import Derived.Test.YtlmdpamehhcblaaGreatDoorWe
/- Contracts of package whole: times, divided, plus. -/
namespace Go.Proofs.YtlmdpamehhcblaaGreatDoor
open Go.RowKit
open YtlmdpamehhcblaaGreatDoorV (wd nw B upd B_eq)

/-- A call's result: a new block with a number. -/
def NewW (less : Bool) (v : Nat) (w : World) (e : Ending) (w' : World) : Prop := ∃ g : Nat, e = .returned (.pointer (some ⟨g, 0, none⟩)) ∧ w.heap.size ≤ g ∧ IsW w' g less v ∧ Gr w w'

set_option maxHeartbeats 1000000 in
set_option maxRecDepth 100000 in
theorem times_c (w : World) (gx gy : Nat) (lx ly : Bool) (X Y : Nat) (hx : IsW w gx lx X) (hy : IsW w gy ly Y) (hb : nw X + nw Y ≤ 232) :
    Calls Tryz.prog 104 #[.pointer (some ⟨gx, 0, none⟩), .pointer (some ⟨gy, 0, none⟩)] w (NewW (lx != ly) (X * Y) w) := by
  have c0 := hx.1.c0
  have d0 := hy.1.c0
  have d1 := hy.1.c1
  have gx0 := hx.1.lt
  have gy0 := hy.1.lt
  have Hx := Lib.hid hx; have Hy := Lib.hid hy; clear hx hy
  go_enter Tryz.func104, Tryz.ntmps104
  go_wp2_with fail
  go_still_tail 9, (by kernel_rfl)
  change wpList _ _ _ _ _ w.drew
  go_wp2_with fail
  have Hn := Lib.hid (show WB ((w.alloc (.cells (Tryz.zeroCells136.setIfInBounds 0 (.bool (lx != ly))) 136)).drew) w.heap.size (lx != ly) 0 (fun _ => 0) from WB.new w (lx != ly))
  have Hg := Lib.hid (show Gr w ((w.alloc (.cells (Tryz.zeroCells136.setIfInBounds 0 (.bool (lx != ly))) 136)).drew) from ((Gr.refl w).alloc _).drew)
  go_loopg [22] (nw Y) (fun gk i wr => ∃ j : Nat, gk + j = nw Y ∧ i = .int .i64 j ∧ Aside (IsW wr w.heap.size (lx != ly) (X * (Y % B ^ j)) ∧ IsW wr gx lx X ∧ IsW wr gy ly Y ∧ Gr w wr))
  case atStart =>
    refine ⟨0, rfl, rfl, ?_, Hx.out.grow Hg.out, Hy.out.grow Hg.out, Hg.out⟩
    rw [Nat.pow_zero, Nat.mod_one, Nat.mul_zero]
    exact IsW.zero Hn.out
  case round =>
    obtain ⟨j, hj, rfl, A⟩ := hrel
    have HJ := Lib.hid hj; clear hj
    by_cases hlt : j < nw Y
    · have cy := A.out.2.2.1.1.cw j (by omega)
      go_wp2_with fail
      refine (carry_loop _ w.heap.size gx (lx != ly) lx (X * (Y % B ^ j)) X (wd Y j) j (X * (Y % B ^ (j + 1))) A.out.1 A.out.2.1 (by omega) (by omega) (by omega) (by have := YtlmdpamehhcblaaGreatDoorV.wd_lt Y j; rw [B_eq] at this; omega) ?_ ?_).mono ?_
      · rw [YtlmdpamehhcblaaGreatDoorV.mod_succ]
        simp only [Int.natCast_mul, Int.natCast_add, Int.mul_add]
        simp only [Int.mul_comm, Int.mul_left_comm]
      · have h1 : X * (Y % B ^ (j + 1)) ≤ X * Y := Nat.mul_le_mul_left _ (Nat.mod_le _ _)
        have h2 := YtlmdpamehhcblaaGreatDoorV.mul_lt_pow X Y
        have h3 := Nat.pow_le_pow_right YtlmdpamehhcblaaGreatDoorV.B_pos hb
        omega
      · rintro e w' ⟨rfl, hV, hF⟩
        have Hx2 := Lib.hid (A.out.2.1.fr hF (by omega))
        have Hy2 := Lib.hid (A.out.2.2.1.fr hF (by omega))
        have Hf2 := Lib.hid (A.out.2.2.2.fr hF (Nat.le_refl _))
        have Hv2 := Lib.hid hV
        clear hF hV cy A
        go_wp2_with fail
        go_roundg (gk - 1)
        case measure => have := HJ.out; omega
        case rel => exact ⟨j + 1, by have := HJ.out; omega, by go_num, Hv2.out, Hx2.out, Hy2.out, Hf2.out⟩
    · have A2 : IsW wr w.heap.size (lx != ly) (X * Y) := by
        have := A.out.1
        rwa [YtlmdpamehhcblaaGreatDoorV.mod_nw Y j (by omega)] at this
      have HA2 := Lib.hid A2
      clear A2
      go_wp2_with fail
      go_ret
      exact ⟨_, rfl, Nat.le_refl _, HA2.out, A.out.2.2.2⟩

/-- What divided hands back. -/
def Div2 (lq lr : Bool) (q r : Nat) (w : World) (e : Ending) (w' : World) : Prop := ∃ gq gr : Nat, e = .returned (.tuple #[.pointer (some ⟨gq, 0, none⟩), .pointer (some ⟨gr, 0, none⟩)]) ∧ w.heap.size ≤ gq ∧ w.heap.size ≤ gr ∧ gq ≠ gr ∧ IsW w' gq lq q ∧ IsW w' gr lr r ∧ Gr w w'
/-- The words that are known when the words below k are still to come. -/
def fq (v k : Nat) : Nat → Int := fun j => if k ≤ j then (wd v j : Int) else 0

theorem carry_0 (w : World) (gx gy : Nat) (lx ly : Bool) (X Y : Nat) (k : Int) (V : Nat) (hx : IsW w gx lx X) (hy : IsW w gy ly Y) (hne : gy ≠ gx) (hk0 : -1000000000 < k) (hk1 : k < 1000000000)
    (hV : (V : Int) = X + k * Y) (hVB : V < B ^ 232) :
    Calls Tryz.prog 180 #[.pointer (some ⟨gx, 0, none⟩), .pointer (some ⟨gy, 0, none⟩), .int .i64 k, .int .i64 0] w fun e w' => e = .returned (.tuple #[]) ∧ IsW w' gx lx V ∧ Fr gx w w' :=
  carry_loop w gx gy lx ly X Y k 0 V hx hy hne (by have := hy.bd; omega) hk0 hk1 (by rw [Nat.pow_zero]; omega) hVB
theorem digit_bd {D v R Y : Nat} (hY : Y ≠ 0) (h : D * Y + v = R) (hR : R / Y < B) : D < 1000000000 := by
  rw [B_eq] at hR
  have : D ≤ R / Y := (Nat.le_div_iff_mul_le (by omega)).2 (by omega)
  omega
theorem digit_end {D v R Y : Nat} (h : D * Y + v = R) (hv : v < Y) : D = R / Y ∧ v = R % Y := by
  subst h
  rw [Nat.mul_comm D, Nat.mul_add_div (by omega), Nat.mul_add_mod, Nat.div_eq_of_lt hv, Nat.mod_eq_of_lt hv]
  exact ⟨by omega, rfl⟩
theorem fq_step (v i : Nat) : ∀ j, upd (fq v (i + 1)) i (wd v i) j = fq v i j := by
  intro j
  by_cases e : j = i
  · subst e; rw [YtlmdpamehhcblaaGreatDoorV.upd_same]; unfold fq; rw [if_pos (Nat.le_refl _)]
  · rw [YtlmdpamehhcblaaGreatDoorV.upd_other _ _ e]; unfold fq
    by_cases h : i + 1 ≤ j
    · rw [if_pos h, if_pos (by omega)]
    · rw [if_neg h, if_neg (by omega)]

set_option maxHeartbeats 4000000 in
set_option maxRecDepth 100000 in
theorem divided_c (w : World) (gx gy : Nat) (lx ly : Bool) (X Y : Nat) (hx : IsW w gx lx X) (hy : IsW w gy ly Y) (hY : Y ≠ 0) (hb : nw X ≤ 231) (hb2 : nw Y ≤ 229) :
    Calls Tryz.prog 105 #[.pointer (some ⟨gx, 0, none⟩), .pointer (some ⟨gy, 0, none⟩)] w (Div2 false false (X / Y) (X % Y) w) := by
  have c1 := hx.1.c1
  have gx0 := hx.1.lt
  have gy0 := hy.1.lt
  have HY := Lib.hid hY; clear hY
  have Hx := Lib.hid hx; have Hy := Lib.hid hy; clear hx hy
  go_enter Tryz.func105, Tryz.ntmps105
  go_wp2_with fail
  have Hq := Lib.hid (show WB ((w.alloc (.cells Tryz.zeroCells136 136)).alloc (.cells Tryz.zeroCells136 136)) w.heap.size false 0 (fun _ => 0) from (WB.new' w).alloc _)
  have Hr := Lib.hid (show WB ((w.alloc (.cells Tryz.zeroCells136 136)).alloc (.cells Tryz.zeroCells136 136)) (w.heap.size + 1) false 0 (fun _ => 0) from by have := WB.new' (w.alloc (.cells Tryz.zeroCells136 136)); rwa [World.size_alloc] at this)
  have Hg := Lib.hid (show Gr w ((w.alloc (.cells Tryz.zeroCells136 136)).alloc (.cells Tryz.zeroCells136 136)) from ((Gr.refl w).alloc _).alloc _)
  go_loopg [8] (nw X) (fun gk i wr => i = .int .i64 ((gk : Int) - 1) ∧ gk ≤ nw X ∧ Aside (IsW wr (w.heap.size + 1) false (X / B ^ gk % Y) ∧ (∃ nq : Nat, nq ≤ nw X ∧ WB wr w.heap.size false nq (fq (X / Y) gk) ∧ ∀ j, nq ≤ j → fq (X / Y) gk j = 0) ∧ Gr w wr))
  case atStart =>
    refine ⟨by go_num, Nat.le_refl _, ?_, ⟨0, Nat.zero_le _, ?_, ?_⟩, Hg.out⟩
    · rw [Nat.div_eq_of_lt (YtlmdpamehhcblaaGreatDoorV.lt_pow_nw X), Nat.zero_mod]; exact IsW.zero Hr.out
    · refine Hq.out.ext (fun j _ => ?_)
      unfold fq; split
      · rename_i h
        rw [YtlmdpamehhcblaaGreatDoorV.wd_zero_of (Nat.le_trans (YtlmdpamehhcblaaGreatDoorV.nw_mono (Nat.div_le_self X Y)) h)]; rfl
      · rfl
    · intro j _
      unfold fq; split
      · rename_i h
        rw [YtlmdpamehhcblaaGreatDoorV.wd_zero_of (Nat.le_trans (YtlmdpamehhcblaaGreatDoorV.nw_mono (Nat.div_le_self X Y)) h)]; rfl
      · rfl
  case round =>
    obtain ⟨rfl, hk, A⟩ := hrel
    by_cases h0 : gk = 0
    · subst h0
      obtain ⟨nq, hq1, hq2, hq3⟩ := A.out.2.1
      go_wp2_with fail
      refine (trimmed_c _ w.heap.size false nq _ hq2 (by omega)).mono ?_
      rintro e w2 ⟨rfl, m, hm1, hm2, hm3, hm4, hF2⟩
      have ef : ∀ j, fq (X / Y) 0 j = (wd (X / Y) j : Int) := fun j => by unfold fq; rw [if_pos (Nat.zero_le _)]
      have em : m = nw (X / Y) := YtlmdpamehhcblaaGreatDoorV.nw_eq (fun j hj => by
        by_cases h2 : j < nq
        · have := hm3 j hj h2; rw [ef] at this; omega
        · have := hq3 j (by omega); rw [ef] at this; omega) (fun h2 => by have := hm4 h2; rw [ef] at this; omega)
      have Hq9 := Lib.hid (show IsW w2 w.heap.size false (X / Y) from by
        refine ⟨?_, (YtlmdpamehhcblaaGreatDoorV.nw_le_iff _ _).1 (by omega)⟩
        rw [← em]; exact hm2.ext (fun j _ => ef j))
      have hR9 := A.out.1
      rw [Nat.pow_zero, Nat.div_one] at hR9
      have Hr9 := Lib.hid (hR9.fr hF2 (by omega))
      have Hg9 := Lib.hid (A.out.2.2.fr hF2 (Nat.le_refl _))
      clear hR9 ef em hm2 hm3 hm4 hF2 hq2 hq3 A
      go_wp2_with fail
      go_ret2
      exact ⟨_, _, rfl, Nat.le_refl _, by omega, by omega, Hq9.out, Hr9.out, Hg9.out⟩
    · obtain ⟨i, rfl⟩ : ∃ i, gk = i + 1 := ⟨gk - 1, by omega⟩
      have rb : nw (X / B ^ (i + 1) % Y) ≤ 229 := Nat.le_trans (YtlmdpamehhcblaaGreatDoorV.nw_mono (Nat.le_of_lt (Nat.mod_lt _ (by have := HY.out; omega)))) hb2
      obtain ⟨R, hR⟩ : ∃ R, X / B ^ (i + 1) % Y = R := ⟨_, rfl⟩
      rw [hR] at A rb
      have HR := Lib.hid hR; clear hR
      have rc1 := A.out.1.1.c1
      have rbi : (nw R : Int) ≤ 232 := by omega
      have rbj : nw R ≤ 232 := by omega
      go_wp2_with fail
      go_still_tail 12, (by kernel_rfl)
      change wpList _ _ _ _ _ wr.drew
      refine wpList_copy_splice rfl (.tmp 27) (.tmp 35) 197 197 rfl 3 Tryz.underlying197 (by kernel_rfl) _ _ 231 231 (nw R) 232 rfl rfl (w.heap.size + 1) 3 (wcells false (nw R) (fun j => (wd R j : Int))).toList 136 ?hg ((List.range (nw R)).map fun j => Value.int .i64 (wd R j : Int)) ?hn ?hpos ?hfit ?h1 (w.heap.size + 1) wr.drew (Below.refl _ _) (Nat.le_refl _) ?_
      case hg => exact A.out.1.1
      case hn => simp [Nat.min_def]; omega
      case hpos =>
        intro _
        refine ⟨rfl, _, rfl, fun j v hv => ?_⟩
        have hj : j < nw R := by
          have := (List.getElem?_eq_some_iff.1 hv).1
          simpa using this
        rw [List.getElem?_map, List.getElem?_range hj] at hv
        injection hv with hv
        rw [← hv]
        have hcj := A.out.1.1.cw j (by omega)
        by_cases hj0 : j = 0
        · subst hj0; simpa [Addr.add] using hcj
        · simpa [Addr.add, hj0] using hcj
      case hfit => rw [wcells_toList]; simp; omega
      case h1 =>
        intro v hv
        obtain ⟨j, _, rfl⟩ := List.mem_map.1 hv
        rfl
      intro w1 hc1 hb1
      have Hr1 := Lib.hid (show WB w1 (w.heap.size + 1) false (nw R) (shf (fun j => (wd R j : Int)) (nw R)) by
        have := hc1.out; rw [splice_wcells _ _ _ _ (by omega)] at this; exact this)
      have Hg1 := Lib.hid (show Gr w w1 from Gr.trans_below (a := w) (k := w.heap.size + 1) A.out.2.2.drew hb1 (Nat.le_succ _))
      have HQ1 := Lib.hid (show ∃ nq : Nat, nq ≤ nw X ∧ WB w1 w.heap.size false nq (fq (X / Y) (i + 1)) ∧ ∀ j, nq ≤ j → fq (X / Y) (i + 1) j = 0 from by
        obtain ⟨nq, a, b, c⟩ := A.out.2.1; exact ⟨nq, a, b.drew.below hb1 (Nat.lt_succ_self _), c⟩)
      have hx1 := ((Hx.out.grow Hg1.out).1.cw i (by omega))
      have r1 := Hr1.out.fz 2
      have r2 := Hr1.out.fz 1
      have r3 := Hr1.out.c1
      have r4 : w1.cell? ⟨w.heap.size + 1, 2, none⟩ = some (.int .i64 (shf (fun j => (wd R j : Int)) (nw R) 0)) := Hr1.out.cw 0 (by omega)
      have hrlt := Hr1.out.lt
      have hi1 : (i : Int) < 232 := by omega
      have hi2 : i < 232 := by omega
      clear hc1 hb1 A rc1
      go_wp2_with fail
      go_still_tail 10, (by kernel_rfl)
      change wpList _ _ _ _ _ w1.drew
      go_wp2_with fail
      have hw2 : WB ((w1.setCell ⟨w.heap.size + 1, 2, none⟩ (.int .i64 (wd X i))).setCell ⟨w.heap.size + 1, 1, none⟩ (.int .i64 ((nw R : Int) + 1))).drew (w.heap.size + 1) false ((nw R + 1 : Nat) : Int) (upd (shf (fun j => (wd R j : Int)) (nw R)) 0 (wd X i)) :=
        ((Hr1.out.setw 0 (by omega) (wd X i)).set1 _).drew
      refine (trimmed_c _ (w.heap.size + 1) false (nw R + 1) _ hw2 (by omega)).mono ?_
      rintro e w2 ⟨rfl, m, hm1, hm2, hm3, hm4, hF2⟩
      have D1 := YtlmdpamehhcblaaGreatDoorV.div_word X Y i
      rw [HR.out] at D1
      have hP := IsW.push hm2 (YtlmdpamehhcblaaGreatDoorV.wd_lt X i) (by omega) hm3 hm4
      have Hr2 := Lib.hid hP
      have HD := Lib.hid D1
      have hF1 : Fr (w.heap.size + 1) w1 w2 := (Fr.drew (Fr.setCell (p := ⟨w.heap.size + 1, 1, none⟩) (Fr.setCell (p := ⟨w.heap.size + 1, 2, none⟩) (Fr.refl (w.heap.size + 1) w1) rfl _) rfl _)).trans hF2
      have HF2 := Lib.hid hF1
      have Hg2 := Lib.hid (Hg1.out.fr hF1 (Nat.le_succ _))
      have HQ2 := Lib.hid (show ∃ nq : Nat, nq ≤ nw X ∧ WB w2 w.heap.size false nq (fq (X / Y) (i + 1)) ∧ ∀ j, nq ≤ j → fq (X / Y) (i + 1) j = 0 from by
        obtain ⟨nq, a, b, c⟩ := HQ1.out; exact ⟨nq, a, b.fr hF1 (by omega), c⟩)
      clear hP D1 hF1 hF2 hm2 hm3 hm4 hw2 r1 r2 r3 r4 hx1
      go_wp2_with fail
      go_loopg [9] (R * B + wd X i) (fun v d wr => ∃ D : Nat, d = .int .i64 D ∧ Aside (D * Y + v = R * B + wd X i ∧ IsW wr (w.heap.size + 1) false v ∧ Gr w wr ∧ (∃ nq : Nat, nq ≤ nw X ∧ WB wr w.heap.size false nq (fq (X / Y) (i + 1)) ∧ ∀ j, nq ≤ j → fq (X / Y) (i + 1) j = 0)))
      case atStart => exact ⟨0, rfl, by omega, Hr2.out, Hg2.out, HQ2.out⟩
      case round =>
        obtain ⟨D, rfl, A⟩ := hrel
        have hD1 := digit_bd HY.out A.out.1 (by rw [HD.out.2 HY.out]; exact YtlmdpamehhcblaaGreatDoorV.wd_lt _ _)
        have Hx3 := Lib.hid (Hx.out.grow A.out.2.2.1)
        have Hy3 := Lib.hid (Hy.out.grow A.out.2.2.1)
        go_wp2_with fail
        refine (beyond_c _ (w.heap.size + 1) gy false ly gk Y A.out.2.1 Hy3.out).mono ?_
        rintro e w3 ⟨r, rfl, hcmp, hg3⟩
        have HC := Lib.hid hcmp
        have Hv4 := Lib.hid (A.out.2.1.grow hg3)
        have Hy4 := Lib.hid (Hy3.out.grow hg3)
        have Hg4 := Lib.hid (A.out.2.2.1.trans hg3)
        have HQ4 := Lib.hid (show ∃ nq : Nat, nq ≤ nw X ∧ WB w3 w.heap.size false nq (fq (X / Y) (i + 1)) ∧ ∀ j, nq ≤ j → fq (X / Y) (i + 1) j = 0 from by
          obtain ⟨nq, a, b, c⟩ := A.out.2.2.2; exact ⟨nq, a, b.grow hg3, c⟩)
        have HE := Lib.hid A.out.1
        clear hcmp hg3 A Hx3 Hy3
        by_cases hr : 0 ≤ r
        · have hYv : Y ≤ gk := by have := HC.out.1; omega
          have HYv := Lib.hid hYv; clear hYv
          go_wp2_with fail
          refine (estimate_c _ (w.heap.size + 1) gy false ly gk Y Hv4.out Hy4.out HY.out HYv.out (by omega)).mono ?_
          rintro e w4 ⟨k, rfl, hk1, hk2, hk3, hg5⟩
          obtain ⟨kn, rfl⟩ := Int.eq_ofNat_of_zero_le (show 0 ≤ k by omega)
          have HK := Lib.hid (show kn * Y ≤ gk from by rw [← Int.natCast_mul] at hk3; exact Int.ofNat_le.1 hk3)
          have Hv5 := Lib.hid (Hv4.out.grow hg5)
          have Hy5 := Lib.hid (Hy4.out.grow hg5)
          have Hg5 := Lib.hid (Hg4.out.trans hg5)
          have HQ5 := Lib.hid (show ∃ nq : Nat, nq ≤ nw X ∧ WB w4 w.heap.size false nq (fq (X / Y) (i + 1)) ∧ ∀ j, nq ≤ j → fq (X / Y) (i + 1) j = 0 from by
            obtain ⟨nq, a, b, c⟩ := HQ4.out; exact ⟨nq, a, b.grow hg5, c⟩)
          have hvB := Hv4.out.2
          have HvB := Lib.hid hvB
          clear hk3 hg5 hvB Hv4 Hy4 Hg4 HQ4
          go_wp2_with fail
          refine (carry_0 _ (w.heap.size + 1) gy false ly gk Y (-(kn : Int)) (gk - kn * Y) Hv5.out Hy5.out (by omega) (by omega) (by omega) ?_ ?_).mono ?_
          · have := HK.out; rw [Int.neg_mul, ← Int.natCast_mul]; omega
          · have := HvB.out; omega
          rintro e w5 ⟨rfl, hv6, hF6⟩
          have Hv6 := Lib.hid hv6
          have Hg6 := Lib.hid (Hg5.out.fr hF6 (Nat.le_succ _))
          have HQ6 := Lib.hid (show ∃ nq : Nat, nq ≤ nw X ∧ WB w5 w.heap.size false nq (fq (X / Y) (i + 1)) ∧ ∀ j, nq ≤ j → fq (X / Y) (i + 1) j = 0 from by
            obtain ⟨nq, a, b, c⟩ := HQ5.out; exact ⟨nq, a, b.fr hF6 (by omega), c⟩)
          clear hv6 hF6
          go_wp2_with fail
          go_roundg (gk - kn * Y)
          case measure => have := HK.out; have h2 := HY.out; have h3 : 1 * 1 ≤ kn * Y := Nat.mul_le_mul (by omega) (by omega); omega
          case rel => exact ⟨D + kn, by go_num, by have := HK.out; have := HE.out; rw [Nat.add_mul]; omega, Hv6.out, Hg6.out, HQ6.out⟩
        · have hvY : gk < Y := by have := HC.out.1; omega
          obtain ⟨e1, e2⟩ := digit_end HE.out hvY
          rw [HD.out.2 HY.out] at e1
          rw [HD.out.1] at e2
          subst e1
          have HE2 := Lib.hid e2
          obtain ⟨nq, hq1, hq2, hq3⟩ := HQ4.out
          have q1 := hq2.c1
          have q2 := hq2.fz 1
          have q3 := hq2.fz (2 + i)
          have q4 := hq2.cw i hi2
          have HQ := Lib.hid hq2
          have HQz := Lib.hid hq3
          clear e2 hvY hq2 hq3 HQ4
          go_wp2_with fail
          all_goals
            go_roundg i
            case measure => omega
            case rel =>
              refine ⟨by go_num, by omega, ?_, ⟨max nq (i + 1), by omega, ?_, ?_⟩, ?_⟩
              · rw [← HE2.out]
                exact (Hv4.out.1.far (by simp) _).far (by simp) _ |> fun h => ⟨h, Hv4.out.2⟩
              · have h6 := ((HQ.out.setw i hi2 (wd (X / Y) i)).set1 ((max nq (i + 1) : Nat) : Int)).ext (fun j _ => fq_step (X / Y) i j)
                first
                  | (rw [show ((max nq (i + 1) : Nat) : Int) = (nq : Int) by omega] at h6 ⊢; exact h6)
                  | (rw [show ((max nq (i + 1) : Nat) : Int) = (i : Int) + 1 by omega] at h6 ⊢; exact h6)
              · intro j hj
                rw [← fq_step, YtlmdpamehhcblaaGreatDoorV.upd_other _ _ (by omega)]
                exact HQz.out j (by omega)
              · exact (Hg4.out.setCell (Nat.le_refl _) _).setCell (Nat.le_refl _) _
end Go.Proofs.YtlmdpamehhcblaaGreatDoor
