import Derived.Test.YtlmdpamehhcblaaGreatDoorKb
/- Contracts of the reference of whole: divided, Parted and Shared of integers of any size; the reference of ratio: Lowest, Plus. -/
namespace Go.Proofs.YtlmdpamehhcblaaGreatDoor
open Go.RowKit
open Go.Lib (itoa decDigits)
open YtlmdpamehhcblaaGreatDoorD (isDig val rtext)

theorem div_step {R b t : Nat} (hb : 0 < b) (ht : t < R / b) : b ≤ R - t * b ∧ R - t * b - b = R - (t + 1) * b := by
  have h : (t + 1) * b ≤ R := (Nat.le_div_iff_mul_le hb).1 ht
  rw [Nat.add_mul, Nat.one_mul] at h
  rw [Nat.add_mul, Nat.one_mul]
  omega
theorem div_end (R b : Nat) : R - R / b * b = R % b := by
  have := Nat.div_add_mod R b
  rw [Nat.mul_comm] at this
  omega
theorem div_nine {r d b : Nat} (hr : r < b) (hd : d ≤ 9) : (10 * r + d) / b ≤ 9 := by
  have : (10 * r + d) / b < 10 := Nat.div_lt_of_lt_mul (by omega)
  omega
theorem div_next (V d b : Nat) : (10 * V + d) / b = 10 * (V / b) + (10 * (V % b) + d) / b ∧ (10 * V + d) % b = (10 * (V % b) + d) % b := by
  have h := Nat.div_add_mod V b
  have e : 10 * V + d = (10 * (V % b) + d) + b * (10 * (V / b)) := by
    rw [Nat.mul_left_comm]; omega
  rcases Nat.eq_zero_or_pos b with rfl | hb
  · simp
  · constructor
    · rw [e, Nat.add_mul_div_left _ _ hb]; omega
    · rw [e, Nat.add_mul_mod_self_left]
theorem snoc_bare (w : World) (r : Nat) (c : UInt8) (d : Nat) (hd : d ≤ 9) (hc : c.toNat = 48 + d) : Calls Tryz.prog 239 #[.string (bs (decDigits r) ++ bs [c])] w fun e w' => e = .returned (.string (bs (decDigits (10 * r + d)))) ∧ w' = w := by
  have h := bare1_c w (decDigits r ++ [c]) (by simp) (by rw [List.all_append, YtlmdpamehhcblaaGreatDoorD.decDigits_all]; simp only [List.all_cons, List.all_nil, Bool.and_true, Bool.true_and]; rw [YtlmdpamehhcblaaGreatDoorD.isDig_iff]; omega)
  rw [YtlmdpamehhcblaaGreatDoorD.val_snoc, YtlmdpamehhcblaaGreatDoorD.val_decDigits, hc, Nat.add_sub_cancel_left] at h
  rw [bs_append]
  exact h
theorem one_bs (l : List UInt8) (i : Nat) (h : i < l.length) : (bs l).extract i (i + 1) = bs [l[i]] := by
  rw [bs_extract, show i + 1 - i = 1 by omega]
  congr 1
  rw [List.drop_eq_getElem_cons h]
  rfl
def big1301 : Nat := 1301
theorem len_le {u v : Nat} (h : u ≤ v) : (decDigits u).length ≤ (decDigits v).length := by
  rw [YtlmdpamehhcblaaGreatDoorD.decDigits_len, YtlmdpamehhcblaaGreatDoorD.decDigits_len]; exact YtlmdpamehhcblaaGreatDoorD.nDigits_mono h
set_option maxHeartbeats 1000000 in
set_option maxRecDepth 20000 in
theorem divided1_c (w : World) (a b : Nat) (hb : 0 < b) (ha : (decDigits a).length ≤ 1300) (hbl : (decDigits b).length ≤ 1300) :
    Calls Tryz.prog 206 #[.string (bs (decDigits a)), .string (bs (decDigits b))] w fun e w' => e = .returned (.tuple #[.string (bs (decDigits (a / b))), .string (bs (decDigits (a % b)))]) ∧ Gr w w' := by
  have hA := YtlmdpamehhcblaaGreatDoorD.decDigits_all a
  have hva := YtlmdpamehhcblaaGreatDoorD.val_decDigits a
  have hne := YtlmdpamehhcblaaGreatDoorD.decDigits_ne a
  have HD := Lib.hid (fun i hi => dig_of_all hA i hi)
  have HVS := Lib.hid (fun i (hi : i < (decDigits a).length) => val_step (decDigits a) i hi)
  have HL := Lib.hid (fun w u => less1_c w u b)
  have HP := Lib.hid (fun w u (h : b ≤ u) (hl : (decDigits u).length ≤ 3000) => by
    have := paper1_c w u b false (fun _ => h) hl (by omega)
    simp only [Bool.false_eq_true, if_false] at this
    exact this)
  have HS := Lib.hid (fun w r c d h1 h2 => snoc_bare w r c d h1 h2)
  have HB := Lib.hid (fun w (L : List UInt8) h1 h2 => bare1_c w L h1 h2)
  have H1 := Lib.hid (fun i (hi : i < (decDigits a).length) => one_bs (decDigits a) i hi)
  have HEND := Lib.hid (show val ((decDigits a).take (decDigits a).length) = a by rw [List.take_length, hva])
  have sa := bs_size (decDigits a)
  have hpos : 0 < (decDigits a).length := List.length_pos_iff.2 hne
  have hlr : ∀ r, r < 10 * b → (decDigits r).length ≤ big1301 := fun r hr => by
    have h := pow_len b
    rw [YtlmdpamehhcblaaGreatDoorD.decDigits_len]
    refine (YtlmdpamehhcblaaGreatDoorD.nDigits_le_iff _ _ (by unfold big1301; decide)).2 ?_
    exact Nat.lt_of_lt_of_le (show r < 10 ^ ((decDigits b).length + 1) by rw [Nat.pow_succ]; omega) (Nat.pow_le_pow_right (by decide) (show (decDigits b).length + 1 ≤ big1301 by unfold big1301; omega))
  have HLR := Lib.hid hlr
  have z0 : (bs (decDigits 0)) = { data := #[48] } := by rw [YtlmdpamehhcblaaGreatDoorD.decDigits_small (by decide)]; rfl
  obtain ⟨res1, hres1⟩ : ∃ x, x = bs (decDigits (a / b)) := ⟨_, rfl⟩
  obtain ⟨res2, hres2⟩ : ∃ x, x = bs (decDigits (a % b)) := ⟨_, rfl⟩
  rw [← hres1, ← hres2]
  have HR1 := Lib.hid hres1
  have HR2 := Lib.hid hres2
  have HZ0 := Lib.hid z0
  clear hA hva hne hlr z0 hres1 hres2
  generalize decDigits a = A at *
  go_enter Tryz.func206, Tryz.ntmps206
  go_wp2_with fail
  go_loopg [6, 7, 8] A.length (fun k q r i wr => ∃ (j : Nat) (L : List UInt8), k + j = A.length ∧ i = .int .i64 j ∧ q = .string (bs L) ∧ r = .string (bs (decDigits (val (A.take j) % b))) ∧ Aside (L.length = j ∧ L.all isDig = true ∧ val L = val (A.take j) / b ∧ Gr w wr))
  case atStart => exact ⟨0, [], rfl, rfl, rfl, by rw [List.take_zero, YtlmdpamehhcblaaGreatDoorD.val_nil, Nat.zero_mod, HZ0.out], rfl, rfl, by rw [List.take_zero, YtlmdpamehhcblaaGreatDoorD.val_nil, Nat.zero_div], Gr.refl _⟩
  case round =>
    obtain ⟨j, L, hj, rfl, rfl, rfl, AS⟩ := hrel
    obtain ⟨m1, hm1⟩ : ∃ m1, m1 = gk := ⟨_, rfl⟩
    rw [← hm1] at hj
    by_cases hlt : j < A.length
    · obtain ⟨d, hd9, hd⟩ := HD.out j hlt
      have hvs := HVS.out j hlt
      rw [hd, Nat.add_sub_cancel_left] at hvs
      obtain ⟨n1, n2⟩ := div_next (val (A.take j)) d b
      have hrb := Nat.mod_lt (val (A.take j)) hb
      have h9 := div_nine hrb hd9
      have hS := Lib.hid (fun w => HS.out w (val (A.take j) % b) A[j] d hd9 hd)
      have ho := H1.out j hlt
      have hlR := HLR.out (10 * (val (A.take j) % b) + d) (by omega)
      unfold big1301 at hlR
      have zr : (bs (decDigits (val (A.take j) % b))).size ≤ 1300 := by rw [bs_size]; exact Nat.le_trans (len_le (Nat.le_of_lt hrb)) hbl
      have zo : (bs [A[j]]).size = 1 := bs_size _
      have zj : (j : Int) + 1 ≤ (bs A).size := by omega
      obtain ⟨R, hR⟩ : ∃ R, R = 10 * (val (A.take j) % b) + d := ⟨_, rfl⟩
      rw [← hR] at hS h9 n1 n2 hlR
      rw [← hvs] at n1 n2
      have HN := Lib.hid (And.intro n1 n2)
      have zL : (bs L).size ≤ 1300 := by rw [bs_size, AS.out.1]; omega
      clear hd hvs n1 n2 hrb hR
      generalize bs (decDigits (val (A.take j) % b)) = rt at *
      generalize bs [A[j]] = ot at *
      go_wp2_with fail
      refine (hS.out _).mono ?_
      rintro e w1 ⟨rfl, rfl⟩
      go_wp2_with fail
      go_loopg [7, 9] (R / b) (fun k r g wr => ∃ t : Nat, k + t = R / b ∧ r = .string (bs (decDigits (R - t * b))) ∧ g = .int .u8 (48 + t : Int) ∧ Aside (Gr w wr))
      case atStart => exact ⟨0, rfl, by rw [Nat.zero_mul, Nat.sub_zero], by simp, AS.out.2.2.2⟩
      case round =>
        obtain ⟨t, ht, rfl, rfl, AG⟩ := hrel
        have ht9 : t ≤ 9 := by omega
        by_cases htl : t < R / b
        · obtain ⟨e1, e2⟩ := div_step hb htl
          have hl := fun w => HL.out w (R - t * b)
          rw [decide_eq_false (by omega)] at hl
          have hl := Lib.hid hl
          have hp := fun w => HP.out w (R - t * b) e1 (Nat.le_trans (len_le (Nat.sub_le _ _)) (by omega))
          rw [e2] at hp
          have hp := Lib.hid hp
          clear e1 e2
          generalize bs (decDigits (R - t * b)) = x at *
          go_wp2_with fail
          refine (hl.out _).mono ?_
          rintro e w2 ⟨rfl, rfl⟩
          go_wp2_with fail
          refine (hp.out _).mono ?_
          rintro e w3 ⟨rfl, hg3⟩
          have AG2 : Aside (Gr w w3) := AG.out.trans hg3
          clear AG hg3
          go_wp2_with fail
          go_roundg (gk - 1)
          case measure => omega
          case rel => exact ⟨t + 1, by omega, rfl, by simp; omega, AG2.out⟩
        · have hte : t = R / b := by omega
          have hre : R - t * b = R % b := by rw [hte]; exact div_end R b
          have hl := fun w => HL.out w (R - t * b)
          rw [decide_eq_true (by rw [hre]; exact Nat.mod_lt _ hb)] at hl
          have hl := Lib.hid hl
          have cvt := fun w => conv1 w (48 + (t : Int)) (UInt8.ofNat (48 + t)) (by rw [YtlmdpamehhcblaaGreatDoorD.dig_toNat (by omega)]; omega)
          have zc : (bs [UInt8.ofNat (48 + t)]).size = 1 := bs_size _
          have HQ := Lib.hid (show bs L ++ bs [UInt8.ofNat (48 + t)] = bs (L ++ [UInt8.ofNat (48 + t)]) from bs_append _ _)
          have AL : Aside ((L ++ [UInt8.ofNat (48 + t)]).length = j + 1 ∧ (L ++ [UInt8.ofNat (48 + t)]).all isDig = true ∧ val (L ++ [UInt8.ofNat (48 + t)]) = val (A.take (j + 1)) / b ∧ decDigits (R - t * b) = decDigits (val (A.take (j + 1)) % b)) := by
            obtain ⟨p1, p2, p3, _⟩ := AS.out
            obtain ⟨n1, n2⟩ := HN.out
            refine ⟨by simp [p1], ?_, ?_, by rw [hre, n2]⟩
            · rw [List.all_append, p2, Bool.true_and]
              simp only [List.all_cons, List.all_nil, Bool.and_true]
              exact YtlmdpamehhcblaaGreatDoorD.isDig_of (by omega)
            · rw [YtlmdpamehhcblaaGreatDoorD.val_snoc, p3, n1, YtlmdpamehhcblaaGreatDoorD.dig_toNat (by omega), ← hte]; omega
          have hal := Lib.hid AL.out
          have cvw := cvt wr
          have HXE := Lib.hid (show bs (decDigits (R - t * b)) = bs (decDigits (val (A.take (j + 1)) % b)) by rw [AL.out.2.2.2])
          clear AL hte hre AS cvt
          generalize bs (decDigits (R - t * b)) = x at *
          generalize bs [UInt8.ofNat (48 + t)] = dt at *
          generalize bs L = Lt at *
          go_wp2_with fail
          refine (hl.out _).mono ?_
          rintro e w2 ⟨rfl, rfl⟩
          go_wp2_with fail
          go_roundg (m1 - 1)
          case measure => omega
          case rel => exact ⟨j + 1, _, by omega, by go_num, by rw [HQ.out], by rw [HXE.out], hal.out.1, hal.out.2.1, hal.out.2.2.1, AG.out.alloc _⟩
    · have hja : j = A.length := by omega
      subst hja
      obtain ⟨p1, p2, p3, hG⟩ := AS.out
      have hB := fun w => HB.out w L (by intro e; rw [e] at p1; simp at p1; omega) p2
      rw [p3, HEND.out, ← HR1.out] at hB
      have hB := Lib.hid hB
      have hG := Lib.hid hG
      rw [HEND.out, ← HR2.out]
      clear AS p1 p2 p3
      generalize bs L = Lt at *
      go_wp2_with fail
      refine (hB.out _).mono ?_
      rintro e w2 ⟨rfl, rfl⟩
      go_wp2_with fail
      go_ret2
      exact ⟨rfl, hG.out⟩
theorem fdiv_neg {m n : Int} (hm : m < 0) (hn : 0 < n) : (m.natAbs % n.natAbs = 0 → -((m.natAbs / n.natAbs : Nat) : Int) = m / n) ∧ (m.natAbs % n.natAbs ≠ 0 → -((m.natAbs / n.natAbs : Nat) : Int) - 1 = m / n) := by
  obtain ⟨a, rfl⟩ : ∃ a : Nat, m = -(a : Int) := ⟨m.natAbs, by omega⟩
  obtain ⟨b, rfl⟩ := Int.eq_ofNat_of_zero_le (Int.le_of_lt hn)
  rw [Int.natAbs_neg]
  have e1 : ((a : Int)).natAbs = a := rfl
  have e2 : ((b : Int)).natAbs = b := rfl
  rw [e1, e2]
  have h := Nat.div_add_mod a b
  have hb : 0 < b := by omega
  have hlt := Nat.mod_lt a hb
  have hi : (a : Int) = (b : Int) * ((a / b : Nat) : Int) + ((a % b : Nat) : Int) := by rw [← Int.natCast_mul, ← Int.natCast_add, h]
  constructor
  · intro h0
    rw [h0] at hi
    have : -(a : Int) = (b : Int) * (-((a / b : Nat) : Int)) := by rw [Int.mul_neg]; omega
    rw [this, Int.mul_ediv_cancel_left _ (by omega)]
  · intro h0
    have e : -(a : Int) = ((b : Int) - ((a % b : Nat) : Int)) + (b : Int) * (-((a / b : Nat) : Int) - 1) := by rw [Int.mul_sub, Int.mul_neg]; omega
    rw [e, Int.add_mul_ediv_left _ _ (by omega), Int.ediv_eq_zero_of_lt (by omega) (by omega)]; omega
theorem fdiv_pos {m n : Int} (hm : 0 ≤ m) (hn : 0 < n) : ((m.natAbs / n.natAbs : Nat) : Int) = m / n := by
  obtain ⟨a, rfl⟩ := Int.eq_ofNat_of_zero_le hm
  obtain ⟨b, rfl⟩ := Int.eq_ofNat_of_zero_le (Int.le_of_lt hn)
  rfl
theorem is0_dec (d : Nat) : ((bs (decDigits d)).toList == [48]) = decide (d = 0) := by
  rw [bs_toList, Bool.eq_iff_iff, beq_iff_eq, decide_eq_true_iff]
  have e0 : decDigits 0 = [48] := by rw [YtlmdpamehhcblaaGreatDoorD.decDigits_small (by decide)]; rfl
  rw [← e0]
  exact ⟨YtlmdpamehhcblaaGreatDoorD.decDigits_inj, fun h => by rw [h]⟩
theorem one_text : bs (itoa 1) = { data := #[49] } := by
  show bs (itoa ((1 : Nat) : Int)) = _
  rw [YtlmdpamehhcblaaGreatDoorD.itoa_nat, YtlmdpamehhcblaaGreatDoorD.decDigits_1]; rfl
set_option maxHeartbeats 2000000 in
theorem parted1_c (w : World) (m n : Int) (hm : (decDigits m.natAbs).length ≤ 1100) (hn : (decDigits n.natAbs).length ≤ 1100) (h0 : 0 < n) :
    Calls Tryz.prog 142 #[.string (bs (itoa m)), .string (bs (itoa n))] w fun e w' => e = .returned (.tuple #[.string (bs (itoa (m / n))), .string (bs (itoa (m % n)))]) ∧ Gr w w' := by
  by_cases h18 : m.natAbs < 1000000000000000000 ∧ n.natAbs < 1000000000000000000
  · exact parted18_c w m n h18.1 h18.2 h0
  · have HB := fun w => brief1_c w m n
    rw [if_neg h18] at HB
    have HB := Lib.hid HB
    have S1 := Lib.hid (fun w => size1_i w m)
    have S2 := Lib.hid (fun w => size1_i w n)
    have B1 := fun w => below1_i w m
    have B2 := fun w => below1_i w n
    rw [decide_eq_false (by omega)] at B2
    have B2 := Lib.hid B2
    have HD := Lib.hid (fun w => divided1_c w m.natAbs n.natAbs (by omega) (by omega) (by omega))
    have lq : (decDigits (m.natAbs / n.natAbs)).length ≤ 1100 := Nat.le_trans (len_le (Nat.div_le_self _ _)) hm
    have z := is0_dec (m.natAbs % n.natAbs)
    have lout : (decDigits (m / n).natAbs).length ≤ 1101 := by
      have h1 : (m / n).natAbs ≤ m.natAbs := Int.natAbs_ediv_le_natAbs _ _
      exact Nat.le_trans (len_le h1) (by omega)
    have HT := Lib.hid (fun w => times1_c w (m / n) n (by omega) (by omega))
    have lt2 : (decDigits (m / n * n).natAbs).length ≤ 3000 := by
      rw [Int.natAbs_mul]
      exact Nat.le_trans (mul_len2 lout hn (by decide)) (by decide)
    have em : m - m / n * n = m % n := by have := Int.emod_add_mul_ediv m n; rw [Int.mul_comm n] at this; omega
    have HM := fun w => minus1_c w m (m / n * n) (by omega) lt2
    rw [em] at HM
    have HM := Lib.hid HM
    rcases Int.lt_or_le m 0 with hneg | hpos
    · rw [decide_eq_true hneg] at B1
      have B1 := Lib.hid B1
      have HG := fun w => signed1_c w (m.natAbs / n.natAbs) true (by omega)
      rw [if_pos (by rfl)] at HG
      obtain ⟨f1, f2⟩ := fdiv_neg hneg h0
      by_cases hr : m.natAbs % n.natAbs = 0
      · rw [f1 hr] at HG
        have HG := Lib.hid HG
        rw [decide_eq_true hr] at z
        clear h18 hm hn h0 lq lout lt2 em hneg f1 f2 hr
        generalize bs (itoa (m / n)) = qt at *
        generalize bs (itoa (m % n)) = rt at *
        generalize bs (itoa (m / n * n)) = pt at *
        generalize bs (decDigits (m.natAbs / n.natAbs)) = dq at *
        generalize bs (decDigits (m.natAbs % n.natAbs)) = dr at *
        generalize bs (itoa m) = x at *
        generalize bs (itoa n) = y at *
        go_enter Tryz.func142, Tryz.ntmps142
        go_wp2_with fail
        refine (HB.out _).mono ?_
        rintro e w1 ⟨rfl, rfl⟩
        go_wp2_with fail
        refine (S1.out _).mono ?_
        rintro e w1 ⟨rfl, rfl⟩
        go_wp2_with fail
        refine (S2.out _).mono ?_
        rintro e w1 ⟨rfl, rfl⟩
        go_wp2_with fail
        refine (HD.out _).mono ?_
        rintro e w2 ⟨rfl, hg2⟩
        go_wp2_with fail
        refine (B1.out _).mono ?_
        rintro e w3 ⟨rfl, rfl⟩
        go_wp2_with fail
        refine (B2.out _).mono ?_
        rintro e w3 ⟨rfl, rfl⟩
        go_wp2_with fail
        refine (HG.out _).mono ?_
        rintro e w3 ⟨rfl, rfl⟩
        go_wp2_with fail
        refine (HT.out _).mono ?_
        rintro e w5 ⟨rfl, hg5⟩
        go_wp2_with fail
        refine (HM.out _).mono ?_
        rintro e w6 ⟨rfl, hg6⟩
        go_wp2_with fail
        go_ret2
        exact ⟨rfl, (hg2.trans hg5).trans hg6⟩
      · rw [decide_eq_false hr] at z
        have HM1 := fun w => minus1_c w (-((m.natAbs / n.natAbs : Nat) : Int)) 1 (by rw [Int.natAbs_neg]; exact Nat.le_trans lq (by decide)) (by show (decDigits 1).length ≤ 3000; rw [YtlmdpamehhcblaaGreatDoorD.decDigits_1]; decide)
        rw [f2 hr, one_text] at HM1
        have HM1 := Lib.hid HM1
        have HG := Lib.hid HG
        clear h18 hm hn h0 lq lout lt2 em hneg f1 f2 hr
        generalize bs (itoa (m / n)) = qt at *
        generalize bs (itoa (m % n)) = rt at *
        generalize bs (itoa (m / n * n)) = pt at *
        generalize bs (decDigits (m.natAbs % n.natAbs)) = dr at *
        generalize bs (itoa m) = x at *
        generalize bs (itoa n) = y at *
        generalize bs (itoa (-((m.natAbs / n.natAbs : Nat) : Int))) = q0 at *
        generalize bs (decDigits (m.natAbs / n.natAbs)) = dq at *
        go_enter Tryz.func142, Tryz.ntmps142
        go_wp2_with fail
        refine (HB.out _).mono ?_
        rintro e w1 ⟨rfl, rfl⟩
        go_wp2_with fail
        refine (S1.out _).mono ?_
        rintro e w1 ⟨rfl, rfl⟩
        go_wp2_with fail
        refine (S2.out _).mono ?_
        rintro e w1 ⟨rfl, rfl⟩
        go_wp2_with fail
        refine (HD.out _).mono ?_
        rintro e w2 ⟨rfl, hg2⟩
        go_wp2_with fail
        refine (B1.out _).mono ?_
        rintro e w3 ⟨rfl, rfl⟩
        go_wp2_with fail
        refine (B2.out _).mono ?_
        rintro e w3 ⟨rfl, rfl⟩
        go_wp2_with fail
        refine (HG.out _).mono ?_
        rintro e w3 ⟨rfl, rfl⟩
        go_wp2_with fail
        refine (B1.out _).mono ?_
        rintro e w3 ⟨rfl, rfl⟩
        go_wp2_with fail
        refine (B2.out _).mono ?_
        rintro e w3 ⟨rfl, rfl⟩
        go_wp2_with fail
        refine (HM1.out _).mono ?_
        rintro e w4 ⟨rfl, hg4⟩
        have hg2 := hg2.trans hg4
        go_wp2_with fail
        refine (HT.out _).mono ?_
        rintro e w5 ⟨rfl, hg5⟩
        go_wp2_with fail
        refine (HM.out _).mono ?_
        rintro e w6 ⟨rfl, hg6⟩
        go_wp2_with fail
        go_ret2
        exact ⟨rfl, (hg2.trans hg5).trans hg6⟩
    · rw [decide_eq_false (by omega)] at B1
      have B1 := Lib.hid B1
      have HG := fun w => signed1_c w (m.natAbs / n.natAbs) false (by omega)
      rw [if_neg (by simp), fdiv_pos hpos h0] at HG
      have HG := Lib.hid HG
      clear h18 hm hn h0 lq lout lt2 em hpos
      generalize bs (itoa (m / n)) = qt at *
      generalize bs (itoa (m % n)) = rt at *
      generalize bs (itoa (m / n * n)) = pt at *
      generalize bs (decDigits (m.natAbs / n.natAbs)) = dq at *
      generalize bs (itoa m) = x at *
      generalize bs (itoa n) = y at *
      by_cases hr : m.natAbs % n.natAbs = 0
      · rw [decide_eq_true hr] at z
        clear hr
        generalize bs (decDigits (m.natAbs % n.natAbs)) = dr at *
        go_enter Tryz.func142, Tryz.ntmps142
        go_wp2_with fail
        refine (HB.out _).mono ?_
        rintro e w1 ⟨rfl, rfl⟩
        go_wp2_with fail
        refine (S1.out _).mono ?_
        rintro e w1 ⟨rfl, rfl⟩
        go_wp2_with fail
        refine (S2.out _).mono ?_
        rintro e w1 ⟨rfl, rfl⟩
        go_wp2_with fail
        refine (HD.out _).mono ?_
        rintro e w2 ⟨rfl, hg2⟩
        go_wp2_with fail
        refine (B1.out _).mono ?_
        rintro e w3 ⟨rfl, rfl⟩
        go_wp2_with fail
        refine (B2.out _).mono ?_
        rintro e w3 ⟨rfl, rfl⟩
        go_wp2_with fail
        refine (HG.out _).mono ?_
        rintro e w3 ⟨rfl, rfl⟩
        go_wp2_with fail
        refine (HT.out _).mono ?_
        rintro e w5 ⟨rfl, hg5⟩
        go_wp2_with fail
        refine (HM.out _).mono ?_
        rintro e w6 ⟨rfl, hg6⟩
        go_wp2_with fail
        go_ret2
        exact ⟨rfl, (hg2.trans hg5).trans hg6⟩
      · rw [decide_eq_false hr] at z
        clear hr
        generalize bs (decDigits (m.natAbs % n.natAbs)) = dr at *
        go_enter Tryz.func142, Tryz.ntmps142
        go_wp2_with fail
        refine (HB.out _).mono ?_
        rintro e w1 ⟨rfl, rfl⟩
        go_wp2_with fail
        refine (S1.out _).mono ?_
        rintro e w1 ⟨rfl, rfl⟩
        go_wp2_with fail
        refine (S2.out _).mono ?_
        rintro e w1 ⟨rfl, rfl⟩
        go_wp2_with fail
        refine (HD.out _).mono ?_
        rintro e w2 ⟨rfl, hg2⟩
        go_wp2_with fail
        refine (B1.out _).mono ?_
        rintro e w3 ⟨rfl, rfl⟩
        go_wp2_with fail
        refine (B2.out _).mono ?_
        rintro e w3 ⟨rfl, rfl⟩
        go_wp2_with fail
        refine (HG.out _).mono ?_
        rintro e w3 ⟨rfl, rfl⟩
        go_wp2_with fail
        refine (B1.out _).mono ?_
        rintro e w3 ⟨rfl, rfl⟩
        go_wp2_with fail
        refine (B2.out _).mono ?_
        rintro e w3 ⟨rfl, rfl⟩
        go_wp2_with fail
        refine (HT.out _).mono ?_
        rintro e w5 ⟨rfl, hg5⟩
        go_wp2_with fail
        refine (HM.out _).mono ?_
        rintro e w6 ⟨rfl, hg6⟩
        go_wp2_with fail
        go_ret2
        exact ⟨rfl, (hg2.trans hg5).trans hg6⟩
set_option maxHeartbeats 600000 in
set_option maxRecDepth 20000 in
theorem shared1_c (w : World) (m n : Int) (hm : (decDigits m.natAbs).length ≤ 1100) (hn : (decDigits n.natAbs).length ≤ 1100) :
    Calls Tryz.prog 187 #[.string (bs (itoa m)), .string (bs (itoa n))] w fun e w' => e = .returned (.string (bs (itoa (Nat.gcd m.natAbs n.natAbs : Nat)))) ∧ Gr w w' := by
  have S1 := Lib.hid (fun w => size1_i w m)
  have S2 := Lib.hid (fun w => size1_i w n)
  have G1 := Lib.hid (fun w => signed_nat w m (by omega))
  have G2 := Lib.hid (fun w => signed_nat w n (by omega))
  have HBR := Lib.hid (fun w (c d : Nat) => brief1_c w (c : Int) (d : Int))
  have HPT := Lib.hid (fun w (c d : Nat) hc hd h0 => parted1_c w (c : Int) (d : Int) hc hd h0)
  generalize m.natAbs = a at *
  generalize n.natAbs = b at *
  generalize bs (itoa m) = x at *
  generalize bs (itoa n) = y at *
  generalize bs (decDigits a) = da at *
  generalize bs (decDigits b) = db at *
  obtain ⟨r, hr⟩ : ∃ r, r = Nat.gcd a b := ⟨_, rfl⟩
  rw [← hr]
  obtain ⟨res, hres⟩ : ∃ res, res = bs (itoa (r : Int)) := ⟨_, rfl⟩
  rw [← hres]
  have HRES := Lib.hid hres
  have HR := Lib.hid hr
  clear hr hres
  go_enter Tryz.func187, Tryz.ntmps187
  go_wp2_with fail
  refine (S1.out _).mono ?_
  rintro e w1 ⟨rfl, rfl⟩
  go_wp2_with fail
  refine (G1.out _).mono ?_
  rintro e w1 ⟨rfl, rfl⟩
  go_wp2_with fail
  refine (S2.out _).mono ?_
  rintro e w1 ⟨rfl, rfl⟩
  go_wp2_with fail
  refine (G2.out _).mono ?_
  rintro e w1 ⟨rfl, rfl⟩
  go_wp2_with fail
  go_loopg [0, 1] b (fun k u v wr => ∃ c d : Nat, k = d ∧ u = .string (bs (itoa (c : Int))) ∧ v = .string (bs (itoa (d : Int))) ∧ Aside (Nat.gcd c d = r ∧ (decDigits c).length ≤ 1100 ∧ (decDigits d).length ≤ 1100 ∧ Gr w1 wr))
  case atStart => exact ⟨a, b, rfl, rfl, rfl, HR.out.symm, hm, hn, Gr.refl _⟩
  case round =>
    obtain ⟨c, d, hk, rfl, rfl, A⟩ := hrel
    have z := itoa_is0 (d : Int)
    by_cases hd0 : d = 0
    · subst hd0
      rw [decide_eq_true (by rfl)] at z
      have hg := A.out.1
      rw [Nat.gcd_zero_right] at hg
      have hG := Lib.hid A.out.2.2.2
      have hRR := HRES.out
      rw [← hg] at hRR
      have hRR := Lib.hid hRR
      clear A hg
      generalize bs (itoa ((0 : Nat) : Int)) = tb at *
      go_wp2_with fail
      go_ret
      exact ⟨by rw [hRR.out]; rfl, hG.out⟩
    · rw [decide_eq_false (by omega)] at z
      have hdp : 0 < d := by omega
      have hlt := Nat.mod_lt c hdp
      have hgc : Nat.gcd d (c % d) = Nat.gcd c d := by rw [Nat.gcd_comm c d]; exact (Nat.gcd_rec d c).symm ▸ Nat.gcd_comm _ _
      have HB := fun w => HBR.out w c d
      by_cases h18 : ((c : Int)).natAbs < 1000000000000000000 ∧ ((d : Int)).natAbs < 1000000000000000000
      · rw [if_pos h18] at HB
        have HB := Lib.hid HB
        have hc18 : c < 1000000000000000000 := h18.1
        have hd18 : d < 1000000000000000000 := h18.2
        have A1 : Aside (Nat.gcd c d = r ∧ Gr w1 wr) := ⟨A.out.1, A.out.2.2.2⟩
        clear A h18 hgc hlt
        generalize bs (itoa (c : Int)) = ct at *
        generalize bs (itoa (d : Int)) = dt at *
        go_wp2_with fail
        refine (HB.out _).mono ?_
        rintro e w2 ⟨rfl, rfl⟩
        go_wp2_with fail
        go_loopg [5, 6] d (fun k u v wr => ∃ c d : Nat, k = d ∧ u = .int .i64 c ∧ v = .int .i64 d ∧ c < 1000000000000000000 ∧ d < 1000000000000000000 ∧ Aside (Nat.gcd c d = r ∧ Gr w1 wr))
        case atStart => exact ⟨c, d, rfl, rfl, rfl, hc18, hd18, A1.out⟩
        case round =>
          obtain ⟨c2, d2, hk2, rfl, rfl, hc, hd, A⟩ := hrel
          by_cases hd0 : d2 = 0
          · subst hd0
            have hg := A.out.1
            rw [Nat.gcd_zero_right] at hg
            have HO := fun w => of1_c w (c2 : Int) (by omega) (by omega)
            have hRR := HRES.out
            rw [← hg] at hRR
            rw [← hRR] at HO
            have HO := Lib.hid HO
            have hG := Lib.hid A.out.2
            clear A hg hRR
            go_wp2_with fail
            refine (HO.out _).mono ?_
            rintro e w3 ⟨rfl, hg3⟩
            go_wp2_with fail
            go_ret
            exact ⟨rfl, hG.out.trans hg3⟩
          · have ht : ((c2 : Nat) : Int).tmod (d2 : Int) = ((c2 % d2 : Nat) : Int) := by rw [Int.tmod_eq_emod_of_nonneg (by omega)]; rfl
            have hlt := Nat.mod_lt c2 (show 0 < d2 by omega)
            have A2 : Aside (Nat.gcd d2 (c2 % d2) = r ∧ Gr w1 wr) := ⟨by rw [← A.out.1, Nat.gcd_comm c2 d2]; exact (Nat.gcd_rec d2 c2).symm ▸ Nat.gcd_comm _ _, A.out.2⟩
            clear A
            generalize c2 % d2 = cd at *
            have hdz : (d2 : Int) ≠ 0 := by omega
            go_wp2_with fail
            go_quiet (fail)
            go_wp2_with fail
            go_roundg cd
            case measure => omega
            case rel => exact ⟨d2, cd, rfl, rfl, rfl, hd, by omega, A2.out.1, A2.out.2.drewN _⟩
      · rw [if_neg h18] at HB
        have HB := Lib.hid HB
        have HP := fun w => HPT.out w c d A.out.2.1 A.out.2.2.1 (by omega)
        have em : (c : Int) % (d : Int) = ((c % d : Nat) : Int) := rfl
        rw [em] at HP
        have HP := Lib.hid HP
        have A2 : Aside (Nat.gcd d (c % d) = r ∧ (decDigits d).length ≤ 1100 ∧ (decDigits (c % d)).length ≤ 1100 ∧ Gr w1 wr) :=
          ⟨hgc.trans A.out.1, A.out.2.2.1, Nat.le_trans (len_le (Nat.le_of_lt hlt)) A.out.2.2.1, A.out.2.2.2⟩
        clear A h18 hgc em
        generalize c % d = cd at *
        generalize bs (itoa ((c : Int) / (d : Int))) = qt at *
        generalize hct : bs (itoa (c : Int)) = ct at *
        generalize hdt : bs (itoa (d : Int)) = dt at *
        generalize hrt : bs (itoa (cd : Int)) = rt at *
        have HDT := Lib.hid hdt
        have HRT := Lib.hid hrt
        clear hct hdt hrt
        go_wp2_with fail
        refine (HB.out _).mono ?_
        rintro e w2 ⟨rfl, rfl⟩
        go_wp2_with fail
        refine (HP.out _).mono ?_
        rintro e w3 ⟨rfl, hg3⟩
        go_wp2_with fail
        go_roundg cd
        case measure => omega
        case rel => exact ⟨d, cd, rfl, by rw [HDT.out], by rw [HRT.out], A2.out.1, A2.out.2.1, A2.out.2.2.1, A2.out.2.2.2.trans hg3⟩
set_option maxHeartbeats 600000 in
theorem lowest1_c (w : World) (n : Int) (d : Nat) (hn : (decDigits n.natAbs).length ≤ 1100) (hd : (decDigits d).length ≤ 1100) (h0 : d ≠ 0) :
    Calls Tryz.prog 109 #[.string (bs (itoa n)), .string (bs (itoa (d : Int)))] w (RetR (mkRat n d) w) := by
  unfold RetR
  have hg0 : 0 < Int.gcd n d := Int.gcd_pos_of_ne_zero_right _ (by omega)
  have hgd : Int.gcd n d ≤ d := Nat.le_of_dvd (by omega) (by
    have := Int.gcd_dvd_right n (d : Int)
    exact Int.natCast_dvd_natCast.1 this)
  have HS := fun w => shared1_c w n (d : Int) hn hd
  have lg : (decDigits (Int.gcd n d)).length ≤ 1100 := Nat.le_trans (len_le hgd) hd
  have eg : Nat.gcd n.natAbs ((d : Int)).natAbs = Int.gcd n d := rfl
  rw [eg] at HS
  have HB := fun w => below1_i w (d : Int)
  rw [decide_eq_false (by omega)] at HB
  have P1 := Lib.hid (fun w => parted1_c w n (Int.gcd n d : Int) hn lg (by omega))
  have P2 := fun w => parted1_c w (d : Int) (Int.gcd n d : Int) hd lg (by omega)
  have eq2 : (d : Int) / ((Int.gcd n d : Nat) : Int) = ((d / Int.gcd n d : Nat) : Int) := rfl
  rw [eq2, YtlmdpamehhcblaaGreatDoorD.itoa_nat (d / Int.gcd n d)] at P2
  have hlow := YtlmdpamehhcblaaGreatDoorD.lowest_eq n d h0
  unfold YtlmdpamehhcblaaGreatDoorD.rjoin at hlow
  have z := is1_dec (d / Int.gcd n d)
  have ln : (bs (itoa (n / ((Int.gcd n d : Nat) : Int)))).size ≤ 3000 := by
    have h1 : (n / ((Int.gcd n d : Nat) : Int)).natAbs ≤ n.natAbs := Int.natAbs_ediv_le_natAbs _ _
    have h2 := itoa_len1 (n / ((Int.gcd n d : Nat) : Int))
    have h3 := Nat.le_trans (len_le h1) hn
    rw [bs_size]; omega
  have ld : (bs (decDigits (d / Int.gcd n d))).size ≤ 3000 := by
    have h1 : d / Int.gcd n d ≤ d := Nat.div_le_self _ _
    have h2 := Nat.le_trans (len_le h1) hd
    rw [bs_size]; omega
  have HS := Lib.hid HS; have HB := Lib.hid HB; have P2 := Lib.hid P2
  have hb : bs (rtext (mkRat n d)) = if d / Int.gcd n d = 1 then bs (itoa (n / ((Int.gcd n d : Nat) : Int))) else bs (itoa (n / ((Int.gcd n d : Nat) : Int))) ++ { data := #[47] } ++ bs (decDigits (d / Int.gcd n d)) := by
    rw [← hlow]
    by_cases h : d / Int.gcd n d = 1
    · rw [if_pos (YtlmdpamehhcblaaGreatDoorD.decDigits_eq_1.2 h), if_pos h]
    · rw [if_neg (fun e => h (YtlmdpamehhcblaaGreatDoorD.decDigits_eq_1.1 e)), if_neg h]
      show _ = bs _ ++ bs [47] ++ bs _
      rw [bs_append, bs_append, List.append_assoc]; rfl
  rw [hb]
  clear hb hlow eg eq2 hn hd h0 hg0 hgd lg
  generalize bs (itoa (n / ((Int.gcd n d : Nat) : Int))) = qn at *
  generalize bs (decDigits (d / Int.gcd n d)) = qd at *
  generalize bs (itoa (n % ((Int.gcd n d : Nat) : Int))) = rn at *
  generalize bs (itoa ((d : Int) % ((Int.gcd n d : Nat) : Int))) = rd at *
  generalize bs (itoa ((Int.gcd n d : Nat) : Int)) = gt at *
  generalize bs (itoa n) = x at *
  generalize bs (itoa (d : Int)) = y at *
  by_cases h1 : d / Int.gcd n d = 1
  · rw [decide_eq_true h1] at z
    rw [if_pos h1]
    clear h1
    go_enter Tryz.func109, Tryz.ntmps109
    go_wp2_with fail
    refine (HS.out _).mono ?_
    rintro e w1 ⟨rfl, hg1⟩
    go_wp2_with fail
    refine (HB.out _).mono ?_
    rintro e w2 ⟨rfl, rfl⟩
    go_wp2_with fail
    refine (P1.out _).mono ?_
    rintro e w3 ⟨rfl, hg3⟩
    go_wp2_with fail
    refine (P2.out _).mono ?_
    rintro e w4 ⟨rfl, hg4⟩
    go_wp2_with fail
    go_ret
    exact ⟨rfl, (hg1.trans hg3).trans hg4⟩
  · rw [decide_eq_false h1] at z
    rw [if_neg h1]
    clear h1
    go_enter Tryz.func109, Tryz.ntmps109
    go_wp2_with fail
    refine (HS.out _).mono ?_
    rintro e w1 ⟨rfl, hg1⟩
    go_wp2_with fail
    refine (HB.out _).mono ?_
    rintro e w2 ⟨rfl, rfl⟩
    go_wp2_with fail
    refine (P1.out _).mono ?_
    rintro e w3 ⟨rfl, hg3⟩
    go_wp2_with fail
    refine (P2.out _).mono ?_
    rintro e w4 ⟨rfl, hg4⟩
    go_wp2_with fail
    go_ret
    exact ⟨rfl, (hg1.trans hg3).trans hg4⟩
/-- Parts of at most 500 digits. -/
structure P5 (q : Rat) : Prop where
  n : (decDigits q.num.natAbs).length ≤ 500
  d : (decDigits q.den).length ≤ 500
theorem P5.p {q : Rat} (h : P5 q) : P12 q := ⟨by have := h.n; omega, by have := h.d; omega⟩
set_option maxHeartbeats 600000 in
theorem plus2_c (w : World) (a b : Rat) (ha : P5 a) (hb : P5 b) : Calls Tryz.prog 94 #[.string (bs (rtext a)), .string (bs (rtext b))] w (RetR (a + b) w) := by
  have HC := Lib.hid (fun w => crossed2_c w a b ha.p hb.p)
  have l1 := mul_len2 ha.n hb.d (by decide)
  have l2 := mul_len2 hb.n ha.d (by decide)
  have l3 := mul_len2 ha.d hb.d (by decide)
  have HP := Lib.hid (fun w => plus1_c w (a.num * (b.den : Int)) (b.num * (a.den : Int)) (by rw [Int.natAbs_mul]; exact Nat.le_trans l1 (by decide)) (by rw [Int.natAbs_mul]; exact Nat.le_trans l2 (by decide)))
  have l4 : (decDigits (a.num * (b.den : Int) + b.num * (a.den : Int)).natAbs).length ≤ 1100 := by
    have h := Int.natAbs_add_le (a.num * (b.den : Int)) (b.num * (a.den : Int))
    rw [Int.natAbs_mul, Int.natAbs_mul] at h
    have h2 := sum_len (k := 1000) l1 l2
    exact Nat.le_trans (len_le h) (Nat.le_trans h2 (by decide))
  have HO := fun w => lowest1_c w (a.num * (b.den : Int) + b.num * (a.den : Int)) (a.den * b.den) l4 (Nat.le_trans l3 (by decide)) (Nat.mul_ne_zero a.den_nz b.den_nz)
  rw [← YtlmdpamehhcblaaGreatDoorD.add_mk, Int.natCast_mul] at HO
  have HO := Lib.hid HO
  unfold RetCross at HC
  unfold RetR at HO ⊢
  clear ha hb l1 l2 l3 l4
  generalize bs (rtext (a + b)) = z at *
  go_enter Tryz.func94, Tryz.ntmps94
  go_wp2_with fail
  refine (HC.out _).mono ?_
  rintro e w1 ⟨g, rfl, hg1, hc⟩
  have c0 := hc.c0
  have c1 := hc.c1
  have c2 := hc.c2
  have HG1 := Lib.hid hg1
  clear hc hg1
  generalize bs (itoa (a.num * (b.den : Int))) = x at *
  generalize bs (itoa (b.num * (a.den : Int))) = y at *
  generalize bs (itoa ((a.den : Int) * (b.den : Int))) = d at *
  generalize bs (itoa (a.num * (b.den : Int) + b.num * (a.den : Int))) = s at *
  go_wp2_with fail
  go_region_held3 (fun w' => w'.cell? ⟨g, 0, none⟩ = some (.string x) ∧ w'.cell? ⟨g, 1, none⟩ = some (.string y) ∧ w'.cell? ⟨g, 2, none⟩ = some (.string d))
    (first | exact ⟨c0, c1, c2⟩ | exact ⟨cell_gr hg5 c0, cell_gr hg5 c1, cell_gr hg5 c2⟩ | exact ⟨cell_gr (hg5.trans hg6) c0, cell_gr (hg5.trans hg6) c1, cell_gr (hg5.trans hg6) c2⟩)
    ((first
      | (go_at_call 173; refine (HP.out _).mono ?_; rintro e w5 ⟨rfl, hg5⟩)
      | (go_at_call 109; refine (HO.out _).mono ?_; rintro e w6 ⟨rfl, hg6⟩)))
  all_goals (
    go_wp2_with fail
    go_ret
    exact ⟨rfl, by first | exact HG1.out.drew.trans (hg5.trans hg6) | exact HG1.out.trans (hg5.trans hg6)⟩)
end Go.Proofs.YtlmdpamehhcblaaGreatDoor
