import Derived.Test.YtlmdpamehhcblaaGreatDoorWo
import Derived.Test.YtlmdpamehhcblaaGreatDoorRh
import Derived.Test.YtlmdpamehhcblaaGreatDoorRg
import Derived.Test.YtlmdpamehhcblaaGreatDoorKb
import Derived.Test.YtlmdpamehhcblaaGreatDoorBi
import Derived.Test.YtlmdpamehhcblaaGreatDoorOw
/- Contracts of package whole: Binomial, Pow, Total. -/
namespace Go.Proofs.YtlmdpamehhcblaaGreatDoor
open Go.RowKit
open Go.Lib (itoa decDigits)
open YtlmdpamehhcblaaGreatDoorD (rtext bin rsum)
open YtlmdpamehhcblaaGreatDoorV (nw B B_eq)

theorem nw_two {v : Nat} (h : v ≤ 576460752303423488) : nw v ≤ 2 := (YtlmdpamehhcblaaGreatDoorV.nw_le_iff v 2).2 (by rw [B_eq]; exact Nat.lt_of_le_of_lt h (by decide))
theorem nw_three {v : Nat} (h : v ≤ 576460752303423488000) : nw v ≤ 3 := (YtlmdpamehhcblaaGreatDoorV.nw_le_iff v 3).2 (by rw [B_eq]; exact Nat.lt_of_le_of_lt h (by decide))
theorem small_lim {v : Nat} (h : v ≤ 576460752303423488) : v < YtlmdpamehhcblaaGreatDoorD.Lim := Nat.lt_of_le_of_lt h (Nat.lt_trans (by decide) YtlmdpamehhcblaaGreatDoorD.lim_big)
theorem bin_big {n : Nat} (h : n ≤ 59) (k : Nat) : bin n k ≤ 576460752303423488 := Nat.le_trans (YtlmdpamehhcblaaGreatDoorD.bin_le n k) (YtlmdpamehhcblaaGreatDoorD.pow59 h)
theorem read_nat (w : World) (v : Nat) (h : v ≤ 576460752303423488) : Calls Tryz.prog 103 #[.string (bs (itoa (v : Int)))] w (NewW false v w) := by
  have := read_c w (v : Int) (small_lim h)
  rwa [decide_eq_false (by omega), Int.natAbs_natCast] at this
theorem step_times (w : World) (gx gy n j : Nat) (hn : n ≤ 59) (hj : j ≤ n) (hx : IsW w gx false (bin n j)) (hy : IsW w gy false (n - j)) :
    Calls Tryz.prog 104 #[.pointer (some ⟨gx, 0, none⟩), .pointer (some ⟨gy, 0, none⟩)] w (NewW false (bin n j * (n - j)) w) :=
  times_c w gx gy false false _ _ hx hy (by have := nw_two (bin_big hn j); have := nw_two (v := n - j) (by omega); omega)
theorem step_div (w : World) (gx gy n j : Nat) (hn : n ≤ 59) (hj : j < n) (hx : IsW w gx false (bin n j * (n - j))) (hy : IsW w gy false (j + 1)) :
    Calls Tryz.prog 105 #[.pointer (some ⟨gx, 0, none⟩), .pointer (some ⟨gy, 0, none⟩)] w (Div2 false false (bin n (j + 1)) (bin n j * (n - j) % (j + 1)) w) := by
  have hb : bin n j * (n - j) ≤ 576460752303423488 * 59 := Nat.mul_le_mul (bin_big hn j) (by omega)
  have := divided_c w gx gy false false _ _ hx hy (by omega) (by have := nw_three (v := bin n j * (n - j)) (by omega); omega) (by have := nw_two (v := j + 1) (by omega); omega)
  have e : bin n j * (n - j) / (j + 1) = bin n (j + 1) := by rw [← YtlmdpamehhcblaaGreatDoorD.bin_next (by omega), Nat.mul_div_cancel _ (by omega)]
  rwa [e] at this
set_option maxHeartbeats 2000000 in
set_option maxRecDepth 20000 in
theorem Binomial_in (w : World) (he : Env w) (n k : Nat) (hn : n ≤ 59) (hk : k ≤ n) :
    Calls Tryz.prog 38 #[.int .i64 n, .int .i64 k] w (RetI (bin n k : Nat) w) := by
  have HE := Lib.hid he
  have H1 := Lib.hid (fun w => read_nat w 1 (by decide))
  have HO := Lib.hid (fun w he (j : Nat) (hj : j ≤ n) => Of_c w he ((n : Int) - j) (by omega) (by omega))
  have HO2 := Lib.hid (fun w he (j : Nat) (hj : j ≤ n) => Of_c w he ((j : Int) + 1) (by omega) (by omega))
  have HR := Lib.hid (fun w (j : Nat) (hj : j ≤ n) => read_nat w (n - j) (by omega))
  have HR2 := Lib.hid (fun w (j : Nat) (hj : j ≤ n) => read_nat w (j + 1) (by omega))
  have HT := Lib.hid (fun w gx gy (j : Nat) (hj : j ≤ n) hx hy => step_times w gx gy n j hn hj hx hy)
  have HD := Lib.hid (fun w gx gy (j : Nat) (hj : j < n) hx hy => step_div w gx gy n j hn hj hx hy)
  have HB := Lib.hid (fun j => nw_two (bin_big hn j))
  have HL := Lib.hid (fun w he g hw => limited_c w he g false (bin n k) hw (small_lim (bin_big hn k)))
  have hs := YtlmdpamehhcblaaGreatDoorD.bin_symm n k (n - k) (by omega)
  rw [show k + (n - k) = n by omega] at hs
  have HS := Lib.hid hs
  have e1 : (bs (itoa ((1 : Nat) : Int))) = { data := #[49] } := by kernel_rfl
  rw [e1] at H1
  clear he hs e1
  unfold RetI at *
  go_enter Tryz.func38, Tryz.ntmps38
  go_wp2_with fail
  refine (H1.out _).mono ?_
  rintro e w1 ⟨g1, rfl, hb1, hw1, hg1⟩
  have HW1 := Lib.hid hw1
  have HG1 := Lib.hid hg1
  clear hb1 hw1 hg1
  go_wp2_with fail
  go_loopg [6, 27] (min k (n - k)) (fun N p i wr => ∃ (j g : Nat), p = .pointer (some ⟨g, 0, none⟩) ∧ i = .int .i64 j ∧ N + j = min k (n - k) ∧ Aside (IsW wr g false (bin n j) ∧ Gr w wr))
  case atStart => exact ⟨0, g1, rfl, rfl, by omega, by have := HW1.out; rwa [YtlmdpamehhcblaaGreatDoorD.bin_0], HG1.out⟩
  case round =>
    obtain ⟨j, g, rfl, rfl, hj, A⟩ := hrel
    have HJ := Lib.hid hj; clear hj
    by_cases hlt : j < min k (n - k)
    · have hjn : j < n := by omega
      clear HW1 HG1 H1
      go_wp2_with fail
      refine (HO.out _ (HE.out.gr A.out.2) j (by omega)).mono ?_
      rintro e w2 ⟨rfl, hg2⟩
      have G2 := Lib.hid (A.out.2.trans hg2)
      have W2 := Lib.hid (A.out.1.grow hg2)
      clear hg2 A
      go_wp2_with fail
      have HRj := HR.out w2 j (by omega)
      rw [show ((n - j : Nat) : Int) = (n : Int) - j by omega] at HRj
      refine HRj.mono ?_
      rintro e w3 ⟨g3, rfl, hb3, hw3, hg3⟩
      have G3 := Lib.hid (G2.out.trans hg3)
      have W3 := Lib.hid (W2.out.grow hg3)
      have V3 := Lib.hid hw3
      clear hb3 hw3 hg3 G2 W2 HRj
      go_wp2_with fail
      refine (HT.out _ _ _ j (by omega) W3.out V3.out).mono ?_
      rintro e w4 ⟨g4, rfl, hb4, hw4, hg4⟩
      have G4 := Lib.hid (G3.out.trans hg4)
      have W4 := Lib.hid hw4
      clear hb4 hw4 hg4 G3 W3 V3
      go_wp2_with fail
      refine (HO2.out _ (HE.out.gr G4.out) j (by omega)).mono ?_
      rintro e w5 ⟨rfl, hg5⟩
      have G5 := Lib.hid (G4.out.trans hg5)
      have W5 := Lib.hid (W4.out.grow hg5)
      clear hg5 G4 W4
      go_wp2_with fail
      have HRj := HR2.out w5 j (by omega)
      rw [show ((j + 1 : Nat) : Int) = (j : Int) + 1 by omega] at HRj
      refine HRj.mono ?_
      rintro e w6 ⟨g6, rfl, hb6, hw6, hg6⟩
      have G6 := Lib.hid (G5.out.trans hg6)
      have W6 := Lib.hid (W5.out.grow hg6)
      have V6 := Lib.hid hw6
      clear hb6 hw6 hg6 G5 W5 HRj
      go_wp2_with fail
      refine (HD.out _ _ _ j hjn W6.out V6.out).mono ?_
      rintro e w7 ⟨g7, g7r, rfl, hb7, hb7r, hne, hw7, hr7, hg7⟩
      have G7 := Lib.hid (G6.out.trans hg7)
      have x1 := hw7.1.c1
      have x2 := HB.out (j + 1)
      have W7 := Lib.hid hw7
      clear hb7 hb7r hne hw7 hr7 hg7 G6 W6 V6
      generalize hnw : nw (bin n (j + 1)) = q at *
      clear hnw
      go_wp2_with fail
      go_roundg (gk - 1)
      case measure => have := HJ.out; omega
      case rel => exact ⟨j + 1, g7, rfl, by go_num, by have := HJ.out; omega, W7.out, G7.out⟩
    · have hjk : bin n j = bin n k := by
        have := HJ.out
        rcases Nat.le_total k (n - k) with h | h
        · rw [Nat.min_eq_left h] at *; rw [show j = k by omega]
        · rw [Nat.min_eq_right h] at *; rw [show j = n - k by omega]; exact HS.out.symm
      have W2 := A.out.1
      rw [hjk] at W2
      have hli := Lib.hid (HL.out wr (HE.out.gr A.out.2) g W2)
      have hw : wint false (bin n k) = ((bin n k : Nat) : Int) := rfl
      rw [hw] at hli
      clear hjk W2 hw
      go_wp2_with fail
      refine hli.out.mono ?_
      rintro e w2 ⟨rfl, hg2⟩
      go_wp2_with fail
      go_ret2
      exact ⟨rfl, A.out.2.trans hg2⟩
set_option maxHeartbeats 1000000 in
theorem Binomial_out (w : World) (n k : Nat) (hn : n ≤ 59) (hk : n < k) (_ : k ≤ 60) :
    Calls Tryz.prog 38 #[.int .i64 n, .int .i64 k] w (RetI (bin n k : Nat) w) := by
  have e := YtlmdpamehhcblaaGreatDoorD.bin_gt n k hk
  rw [e]
  have e0 : (bs (itoa ((0 : Nat) : Int))) = { data := #[48] } := by kernel_rfl
  unfold RetI
  rw [e0]
  clear e e0
  go_enter Tryz.func38, Tryz.ntmps38
  go_wp2_with fail
  go_ret2
  exact ⟨rfl, Gr.refl w⟩
theorem Binomial_c (w : World) (he : Env w) (n k : Nat) (hn : n ≤ 59) (hk : k ≤ 60) :
    Calls Tryz.prog 38 #[.int .i64 n, .int .i64 k] w (RetI (bin n k : Nat) w) := by
  rcases Nat.lt_or_ge n k with h | h
  · exact Binomial_out w n k hn h hk
  · exact Binomial_in w he n k hn h
theorem pow_big {n : Nat} (h : n ≤ 59) : 2 ^ n ≤ 576460752303423488 := YtlmdpamehhcblaaGreatDoorD.pow59 h
set_option maxHeartbeats 1000000 in
set_option maxRecDepth 20000 in
theorem Pow_c (w : World) (he : Env w) (n : Nat) (hn : n ≤ 59) :
    Calls Tryz.prog 42 #[.string { data := #[50] }, .int .i64 n] w (RetI ((2 ^ n : Nat) : Int) w) := by
  have HE := Lib.hid he
  have HC := Lib.hid (fun w => Check_int w 2 (by have := YtlmdpamehhcblaaGreatDoorD.lim_big; omega))
  have HM := Lib.hid (fun w he (j : Nat) (hj : j < n) => Mul_c w he ((2 ^ j : Nat) : Int) 2 (by rw [Int.natAbs_natCast]; exact small_lim (pow_big (n := j) (by omega))) (by have := YtlmdpamehhcblaaGreatDoorD.lim_big; show 2 < YtlmdpamehhcblaaGreatDoorD.Lim; omega) (by
    rw [show ((2 ^ j : Nat) : Int) * 2 = ((2 ^ (j + 1) : Nat) : Int) by rw [Nat.pow_succ, Int.natCast_mul]; rfl]
    rw [Int.natAbs_natCast]; exact small_lim (pow_big (by omega))))
  have e2 : (bs (itoa (2 : Int))) = { data := #[50] } := by kernel_rfl
  have e1 : { data := #[49] } = (bs (itoa ((2 ^ 0 : Nat) : Int))) := by kernel_rfl
  rw [e2] at HC HM
  have HE1 := Lib.hid e1
  clear he e2 e1
  unfold RetI at *
  go_enter Tryz.func42, Tryz.ntmps42
  go_wp2_with fail
  refine (HC.out _).mono ?_
  rintro e w1 ⟨rfl, hg1⟩
  go_wp2_with fail
  go_loopg [7, 21] n (fun N p i wr => ∃ (j : Nat), p = .string (bs (itoa ((2 ^ j : Nat) : Int))) ∧ i = .int .i64 j ∧ N + j = n ∧ Aside (Gr w wr))
  case atStart => exact ⟨0, by rw [HE1.out], rfl, rfl, hg1⟩
  case round =>
    obtain ⟨j, rfl, rfl, hj, A⟩ := hrel
    have HJ := Lib.hid hj; clear hj
    by_cases hlt : j < n
    · have hM := HM.out wr (HE.out.gr A.out) j hlt
      rw [show ((2 ^ j : Nat) : Int) * 2 = ((2 ^ (j + 1) : Nat) : Int) by rw [Nat.pow_succ, Int.natCast_mul]; rfl] at hM
      have hM := Lib.hid hM
      go_wp2_with fail
      refine hM.out.mono ?_
      rintro e w2 ⟨rfl, hg2⟩
      have G2 := Lib.hid (A.out.trans hg2)
      clear A hM hg2
      go_wp2_with fail
      go_roundg (gk - 1)
      case measure => have := HJ.out; omega
      case rel => exact ⟨j + 1, rfl, by go_num, by have := HJ.out; omega, G2.out⟩
    · have ejn : j = n := by have := HJ.out; omega
      subst ejn
      go_wp2_with fail
      go_ret2
      exact ⟨rfl, A.out⟩
set_option maxHeartbeats 1000000 in
theorem play_c (w : World) (he : Env w) : Calls Tryz.prog 43 #[] w fun e w' => e = .returned (.bool true) ∧ Gr w w' := by
  have HA := RAdd_c w he (mkRat 1 14) (mkRat 1 21) (.of (k := 2) (by decide) (by decide) (by decide)) (.of (k := 2) (by decide) (by decide) (by decide))
  have e1 : (bs (rtext (mkRat 1 14))) = { data := #[49, 47, 49, 52] } := by kernel_rfl
  have e2 : (bs (rtext (mkRat 1 21))) = { data := #[49, 47, 50, 49] } := by kernel_rfl
  have e3 : (bs (rtext (mkRat 1 14 + mkRat 1 21))) = { data := #[53, 47, 52, 50] } := by kernel_rfl
  unfold RetRQ at HA
  rw [e1, e2, e3] at HA
  have HA := Lib.hid HA
  clear he e1 e2 e3
  go_enter Tryz.func43, Tryz.ntmps43
  go_wp2_with fail
  refine HA.out.mono ?_
  rintro e w1 ⟨rfl, hg1⟩
  go_wp2_with fail
  go_ret
  exact ⟨rfl, hg1⟩
theorem ints_own {w : World} {base n g cap : Nat} (l : List Int) (hl : l.length = n) (h : w.ownsRow base 55 1 (.slice (some ⟨g, 0, none⟩) n cap) n (l.map fun s => .string (bs (itoa s)))) : IntsAt w g 0 l := fun j hj => by
  rw [Nat.zero_add, h.cellAt j (by omega), List.getElem?_map, List.getElem?_eq_getElem hj, List.getD_eq_getElem?_getD, List.getElem?_eq_getElem hj]
  rfl
set_option maxHeartbeats 1000000 in
theorem Total_c (w : World) (he : Env w) (g c : Nat) (l : List Int) (hl : IntsAt w g 0 l) (hn : l.length ≤ 4096)
    (hb : ∀ n ∈ l, n.natAbs < YtlmdpamehhcblaaGreatDoorD.Lim) (hp : ∀ j, (isum (l.take j)).natAbs < YtlmdpamehhcblaaGreatDoorD.Lim) :
    Calls Tryz.prog 41 #[.slice (some ⟨g, 0, none⟩) l.length c] w (RetI (isum l) w) := by
  have HA := Lib.hid (fun w hl => all_c w g 0 c l hl (by omega) hb)
  have HS := Lib.hid (fun w he hl => sum_c w he g c l hl (by omega) hb hp)
  have HL := Lib.hid hl
  have HE := Lib.hid he
  clear hl hb hp he
  unfold RetI at *
  generalize l.length = N at *
  go_enter Tryz.func41, Tryz.ntmps41
  go_wp2_with fail
  refine (HA.out _ HL.out).mono ?_
  rintro e w1 ⟨rfl, hg1⟩
  have G1 := Lib.hid hg1
  clear hg1
  go_wp2_with fail
  refine (HS.out _ (HE.out.gr G1.out) (HL.out.gr G1.out)).mono ?_
  rintro e w2 ⟨rfl, hg2⟩
  go_wp2_with fail
  go_ret2
  exact ⟨rfl, G1.out.trans hg2⟩

/-! ### The law -/
def brow (m K : Nat) : List Int := (List.range K).map fun j => ((bin m j : Nat) : Int)
theorem brow_len (m K : Nat) : (brow m K).length = K := by simp [brow]
theorem brow_s (m K : Nat) : brow m (K + 1) = brow m K ++ [((bin m K : Nat) : Int)] := by unfold brow; rw [List.range_succ, List.map_append]; rfl
theorem isum_app (l : List Int) (x : Int) : isum (l ++ [x]) = isum l + x := by unfold isum; rw [List.foldl_append]; rfl
theorem isum_brow (m K : Nat) : isum (brow m K) = ((rsum m K : Nat) : Int) := by
  induction K with
  | zero => rfl
  | succ K ih => rw [brow_s, isum_app, ih]; show _ = ((rsum m K + bin m K : Nat) : Int); omega
theorem brow_take (m K j : Nat) : (brow m K).take j = brow m (min j K) := by
  unfold brow; rw [← List.map_take, List.take_range]
theorem brow_mem {m K : Nat} {x : Int} (h : x ∈ brow m K) : ∃ j, x = ((bin m j : Nat) : Int) := by
  unfold brow at h
  obtain ⟨j, _, rfl⟩ := List.mem_map.1 h
  exact ⟨j, rfl⟩
theorem Total_row (w : World) (he : Env w) (m g c : Nat) (hm : m ≤ 59) (h : w.ownsRow 0 55 1 (.slice (some ⟨g, 0, none⟩) (m + 1) c) (m + 1) ((brow m (m + 1)).map fun s => .string (bs (itoa s)))) :
    Calls Tryz.prog 41 #[.slice (some ⟨g, 0, none⟩) (m + 1) c] w (RetI ((2 ^ m : Nat) : Int) w) := by
  have key := Total_c w he g c (brow m (m + 1)) (ints_own _ (brow_len _ _) h) (by rw [brow_len]; omega) (fun x hx => by
    obtain ⟨j, rfl⟩ := brow_mem hx
    rw [Int.natAbs_natCast]; exact small_lim (bin_big hm j)) (fun j => by
    rw [brow_take, isum_brow, Int.natAbs_natCast]
    have h1 := YtlmdpamehhcblaaGreatDoorD.rsum_mono m (Nat.min_le_right j (m + 1))
    rw [YtlmdpamehhcblaaGreatDoorD.rsum_all] at h1
    exact small_lim (Nat.le_trans h1 (pow_big hm)))
  rw [isum_brow, brow_len, YtlmdpamehhcblaaGreatDoorD.rsum_all] at key
  exact key
theorem info55 : (Tryz.prog.info? 55).map (fun i => (i.zero, i.size, i.bytes)) = some (some (.string { data := #[] }), 1, 16) := by kernel_rfl
set_option maxHeartbeats 4000000 in
set_option maxRecDepth 20000 in
theorem pascal_walk (w : World) (he : Env w) (n k : Int) (m i : Nat) (X : ByteArray) (s : Nat → ByteArray) (hk0 : 0 ≤ k) (hk1 : k ≤ 255) (hm : n.tmod 60 = m) (hm2 : m ≤ 59) (hi : k.tmod ((m : Int) + 1) = i) (hi2 : i ≤ m)
    (hB : ∀ w, Env w → ∀ j : Nat, j ≤ 60 → Calls Tryz.prog 38 #[.int .i64 m, .int .i64 j] w fun e w' => e = .returned (.tuple #[.string (s j), .int .i64 0]) ∧ Gr w w')
    (hM : ∀ w, Env w → Calls Tryz.prog 39 #[.string (s (i + 1)), .string (s i)] w fun e w' => e = .returned (.tuple #[.string X, .int .i64 0]) ∧ Gr w w')
    (hO : ∀ w, Calls Tryz.prog 40 #[.int .i64 ((m : Int) - i), .int .i64 ((i : Int) + 1)] w fun e w' => e = .returned (.string X) ∧ Gr w w')
    (hT : ∀ w, Env w → ∀ g cap, w.ownsRow 0 55 1 (.slice (some ⟨g, 0, none⟩) (m + 1) cap) (m + 1) ((List.range (m + 1)).map fun j => .string (s j)) → Calls Tryz.prog 41 #[.slice (some ⟨g, 0, none⟩) (m + 1) cap] w (RetI ((2 ^ m : Nat) : Int) w)) :
    Calls Tryz.prog 9 #[.int .u8 n, .int .u8 k] w fun e w' => e = .returned (.bool true) ∧ Gr w w' := by
  have HP := Lib.hid (fun w he => play_c w he)
  have HW := Lib.hid (fun w he => Pow_c w he m hm2)
  unfold RetI at *
  generalize (bs (itoa ((2 ^ m : Nat) : Int))) = two at *
  have HE := Lib.hid he
  have HB := Lib.hid hB; have HM := Lib.hid hM; have HO := Lib.hid hO; have HT := Lib.hid hT
  obtain ⟨i55, hi55, hz0, hz1, hz2⟩ := info_parts info55
  clear he hB hM hO hT
  go_enter Tryz.func9, Tryz.ntmps9
  go_wp2_with fail
  refine (HB.out _ HE.out i (by omega)).mono ?_
  rintro e w1 ⟨rfl, hg1⟩
  have G1 := Lib.hid hg1
  clear hg1
  go_wp2_with fail
  refine (HB.out _ (HE.out.gr G1.out) (i + 1) (by omega)).mono ?_
  rintro e w2 ⟨rfl, hg2⟩
  have G2 := Lib.hid (G1.out.trans hg2)
  clear hg2 G1
  go_wp2_with fail
  refine (HM.out _ (HE.out.gr G2.out)).mono ?_
  rintro e w3 ⟨rfl, hg3⟩
  have G3 := Lib.hid (G2.out.trans hg3)
  clear hg3 G2
  go_wp2_with fail
  refine (HO.out _).mono ?_
  rintro e w4 ⟨rfl, hg4⟩
  have G4 := Lib.hid (G3.out.trans hg4)
  clear hg4 G3
  go_wp2_with fail
  go_loopg [13, 64] (m + 1) (fun N v p wr => ∃ j : Nat, p = .int .i64 j ∧ N + j = m + 1 ∧ Aside (wr.ownsRow w.heap.size 55 1 v j ((List.range j).map fun j => .string (s j)) ∧ Gr w wr))
  case atStart => exact ⟨0, rfl, rfl, World.ownsRow_nil _ _ _ _, G4.out⟩
  case round =>
    obtain ⟨j, rfl, hj, AS⟩ := hrel
    have HJ := Lib.hid hj; clear hj
    by_cases hlt : j < m + 1
    · go_wp2_with fail
      refine (HB.out _ (HE.out.gr AS.out.2) j (by omega)).mono ?_
      rintro e w5 ⟨rfl, hg5⟩
      have hown := owns_gr AS.out.1 hg5
      have G5 := Lib.hid (AS.out.2.trans hg5)
      clear hg5
      go_wp2_with (at_builtin; refine wpList_append_lies _ rfl _ _ 60 rfl w.heap.size 55 i55 (.string { data := #[] }) 1 16 Tryz.underlying60 hi55 hz0 hz1 hz2 rfl (by decide) _ _ _ rfl (hown.alloc _) ⟨w5.heap.size, 0, none⟩ 1 1 [.string (s j)] rfl rfl (news1 w5 _ _) (by intro u hu; simp at hu; subst hu; rfl) (by decide) (by unfold maxLen; omega) (by omega) (by have := G5.out.size; simp; omega) _ rfl ?_)
      intro g cap w6 hown6 hgrow hat hlt6
      have e4 : ((List.range j).map fun j => Value.string (s j)) ++ [.string (s j)] = (List.range (j + 1)).map fun j => Value.string (s j) := by rw [List.range_succ, List.map_append]; rfl
      rw [e4] at hown6
      have A2 : Aside (w6.ownsRow w.heap.size 55 1 (.slice (some ⟨g, 0, none⟩) (j + 1) cap) (j + 1) ((List.range (j + 1)).map fun j => Value.string (s j)) ∧ Gr w w6) := ⟨hown6, (G5.out.alloc _).grown hgrow (owns_row_ge AS.out.1)⟩
      clear hown6 hgrow hat hlt6 AS hown e4 G5
      go_wp2_with fail
      go_roundg (gk - 1)
      case measure => have := HJ.out; omega
      case rel => exact ⟨j + 1, by go_num, by have := HJ.out; omega, A2.out⟩
    · have hj1 : j = m + 1 := by have := HJ.out; omega
      subst hj1
      obtain ⟨g, cap, rfl, hbg, hgl⟩ := AS.out.1.form (by omega)
      have S1 := Lib.hid (HT.out wr (HE.out.gr AS.out.2) g cap (owns_base AS.out.1))
      have G5 := Lib.hid AS.out.2
      clear AS hgl G4
      go_wp2_with fail
      refine S1.out.mono ?_
      rintro e w5 ⟨rfl, hg5⟩
      have G6 := Lib.hid (G5.out.trans hg5)
      clear hg5 G5 S1
      go_wp2_with fail
      refine (HW.out _ (HE.out.gr G6.out)).mono ?_
      rintro e w6 ⟨rfl, hg6⟩
      have G7 := Lib.hid (G6.out.trans hg6)
      clear hg6 G6
      go_wp2_with fail
      refine (HP.out _ (HE.out.gr G7.out)).mono ?_
      rintro e w7 ⟨rfl, hg7⟩
      go_wp2_with fail
      go_ret
      exact ⟨rfl, G7.out.trans hg7⟩
theorem LPascal_c (w : World) (he : Env w) (a b : Int) (ha0 : 0 ≤ a) (hb0 : 0 ≤ b) (hb1 : b ≤ 255) :
    Calls Tryz.prog 9 #[.int .u8 a, .int .u8 b] w fun e w' => e = .returned (.bool true) ∧ Gr w w' := by
  obtain ⟨A, hA, hA2⟩ : ∃ A : Nat, a.tmod 60 = A ∧ A ≤ 59 := by
    rw [Int.tmod_eq_emod_of_nonneg ha0]
    exact ⟨(a % 60).toNat, by omega, by omega⟩
  obtain ⟨B, hB, hB2⟩ : ∃ B : Nat, b.tmod ((A : Int) + 1) = B ∧ B ≤ A := by
    rw [Int.tmod_eq_emod_of_nonneg hb0]
    have h1 := Int.emod_nonneg b (show (A : Int) + 1 ≠ 0 by omega)
    have h2 := Int.emod_lt_of_pos b (show 0 < (A : Int) + 1 by omega)
    exact ⟨(b % ((A : Int) + 1)).toNat, by omega, by omega⟩
  refine pascal_walk w he a b A B (bs (rtext (mkRat ((A : Int) - B) (B + 1)))) (fun j => bs (itoa ((bin A j : Nat) : Int))) hb0 hb1 hA hA2 hB hB2 (fun w he j hj => Binomial_c w he A j hA2 hj) (fun w he => ?_) (fun w => over2_c w _ (B + 1) (by omega) (by omega) (by omega)) (fun w he g cap h => Total_row w he A g cap hA2 (by unfold brow; rw [List.map_map]; exact h))
  have hp := YtlmdpamehhcblaaGreatDoorD.bin_pos hB2
  have := Make_c w he ((bin A (B + 1) : Nat) : Int) (bin A B) (by rw [Int.natAbs_natCast]; exact small_lim (bin_big hA2 _)) (small_lim (bin_big hA2 _)) (by omega)
  rw [YtlmdpamehhcblaaGreatDoorD.ratio_next hB2] at this
  exact this
end Go.Proofs.YtlmdpamehhcblaaGreatDoor
