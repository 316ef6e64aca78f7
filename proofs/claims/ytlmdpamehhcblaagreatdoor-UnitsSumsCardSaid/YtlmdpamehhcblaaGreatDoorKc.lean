import Derived.Test.YtlmdpamehhcblaaGreatDoorKb
import Derived.Test.YtlmdpamehhcblaaGreatDoorUn
import Derived.Test.YtlmdpamehhcblaaGreatDoorWg
import Derived.Test.YtlmdpamehhcblaaGreatDoorUb
import Derived.Test.YtlmdpamehhcblaaGreatDoorXa
import Derived.Test.YtlmdpamehhcblaaGreatDoorUc
import Derived.Test.YtlmdpamehhcblaaGreatDoorUd
/- Contracts of the references: Check and Small of whole; digits, natural, cut, small of units. -/
namespace Go.Proofs.YtlmdpamehhcblaaGreatDoor
open Go.RowKit
open Go.Lib (itoa decDigits)
open YtlmdpamehhcblaaGreatDoorD (isDig val natural digs cutc)

set_option maxHeartbeats 2000000 in
theorem check1_c (w : World) (n : Int) (hn : (decDigits n.natAbs).length ≤ 1024) : Calls Tryz.prog 202 #[.string (bs (itoa n))] w fun e w' => e = .returned (.int .i64 0) ∧ w' = w := by
  have HS := Lib.hid (fun w => size1_i w n)
  have HD := Lib.hid (fun i hi => dig_of_all (YtlmdpamehhcblaaGreatDoorD.decDigits_all n.natAbs) i hi)
  have h2 : (bs (decDigits n.natAbs)).toList.isEmpty = false := by rw [bs_toList]; simpa using YtlmdpamehhcblaaGreatDoorD.decDigits_ne n.natAbs
  have hz : 0 < (bs (decDigits n.natAbs)).size := by rw [bs_size]; exact List.length_pos_iff.2 (YtlmdpamehhcblaaGreatDoorD.decDigits_ne n.natAbs)
  have h5 := get0_48 (decDigits n.natAbs) hz
  have sD := bs_size (decDigits n.natAbs)
  have sa := bs_size (itoa n)
  have hla := itoa_len1 n
  by_cases h0 : n = 0
  · have l1 : (decDigits n.natAbs).length = 1 := by rw [h0]; show (decDigits 0).length = 1; rw [YtlmdpamehhcblaaGreatDoorD.decDigits_small (by decide)]; rfl
    have l2 : (itoa n).length = 1 := by rw [h0]; have := YtlmdpamehhcblaaGreatDoorD.itoa_nat 0; rw [show (0 : Int) = ((0 : Nat) : Int) from rfl, this, YtlmdpamehhcblaaGreatDoorD.decDigits_small (by decide)]; rfl
    have l3 : ((decDigits n.natAbs).head? == some 48) = true := by rw [h0]; show ((decDigits 0).head? == some 48) = true; rw [YtlmdpamehhcblaaGreatDoorD.decDigits_small (by decide)]; rfl
    rw [l3] at h5
    rw [l1] at sD
    rw [l2] at sa
    clear h0 l3 hla
    generalize bs (itoa n) = a at *
    generalize decDigits n.natAbs = D at *
    go_enter Tryz.func202, Tryz.ntmps202
    go_wp2_with fail
    refine (HS.out _).mono ?_
    rintro e w1 ⟨rfl, rfl⟩
    go_wp2_with fail
    go_loopg [4] 1 (fun k i wr => ∃ j : Nat, k + j = 1 ∧ i = .int .i64 j ∧ wr = w1)
    case atStart => exact ⟨0, rfl, rfl, rfl⟩
    case round =>
      obtain ⟨j, hj, rfl, rfl⟩ := hrel
      by_cases hlt : j < 1
      · obtain ⟨x, hx9, hx⟩ := HD.out j (by omega)
        have gx : ((bs D)[j]'(by omega)).toNat = 48 + x := hx
        clear hx
        go_wp2_with fail
        go_roundg (gk - 1)
        case measure => omega
        case rel => exact ⟨j + 1, by omega, by go_num, rfl⟩
      · go_wp2_with fail
        go_ret
        exact ⟨rfl, rfl⟩
  · have l3 : ((decDigits n.natAbs).head? == some 48) = false := by
      rw [beq_eq_false_iff_ne]; exact YtlmdpamehhcblaaGreatDoorD.decDigits_head (by omega)
    rw [l3] at h5
    clear h0 l3
    generalize bs (itoa n) = a at *
    generalize decDigits n.natAbs = D at *
    generalize (itoa n).length = la at *
    go_enter Tryz.func202, Tryz.ntmps202
    go_wp2_with fail
    refine (HS.out _).mono ?_
    rintro e w1 ⟨rfl, rfl⟩
    go_wp2_with fail
    go_loopg [4] D.length (fun k i wr => ∃ j : Nat, k + j = D.length ∧ i = .int .i64 j ∧ wr = w1)
    case atStart => exact ⟨0, rfl, rfl, rfl⟩
    case round =>
      obtain ⟨j, hj, rfl, rfl⟩ := hrel
      by_cases hlt : j < D.length
      · obtain ⟨x, hx9, hx⟩ := HD.out j (by omega)
        have gx : ((bs D)[j]'(by omega)).toNat = 48 + x := hx
        clear hx
        go_wp2_with fail
        go_roundg (gk - 1)
        case measure => omega
        case rel => exact ⟨j + 1, by omega, by go_num, rfl⟩
      · go_wp2_with fail
        go_ret
        exact ⟨rfl, rfl⟩
def minT : ByteArray := { data := #[45, 57, 50, 50, 51, 51, 55, 50, 48, 51, 54, 56, 53, 52, 55, 55, 53, 56, 48, 56] }
theorem min_text : bs (itoa (-9223372036854775808)) = minT := by
  have e : itoa (-9223372036854775808) = [45, 57, 50, 50, 51, 51, 55, 50, 48, 51, 54, 56, 53, 52, 55, 55, 53, 56, 48, 56] := by decide +kernel
  rw [e]; rfl
set_option maxHeartbeats 1000000 in
theorem of1_min (w : World) : Calls Tryz.prog 110 #[.int .i64 (-9223372036854775808)] w fun e w' => e = .returned (.string (bs (itoa (-9223372036854775808)))) ∧ w' = w := by
  rw [min_text]
  have hw : wrap64 9223372036854775808 = -9223372036854775808 := by unfold wrap64; omega
  go_enter Tryz.func110, Tryz.ntmps110
  go_wp2_with fail
  go_ret
  exact ⟨rfl, rfl⟩
set_option maxHeartbeats 4000000 in
theorem small1_c (w : World) (n : Int) (hn : n.natAbs < 1000000000000000000) : Calls Tryz.prog 168 #[.string (bs (itoa n))] w fun e w' => e = .returned (.tuple #[.int .i64 n, .int .i64 0]) ∧ Gr w w' := by
  have l18 := (len18 n).2 hn
  have HK := Lib.hid (fun w => check1_c w n (by omega))
  have O1 := Lib.hid (fun w => of1_c w 9223372036854775807 (by decide) (by decide))
  have O2 := Lib.hid of1_min
  have lmax : (decDigits (9223372036854775807 : Int).natAbs).length ≤ 3000 := by
    have : (decDigits 9223372036854775807).length ≤ 19 := by rw [YtlmdpamehhcblaaGreatDoorD.decDigits_len]; exact (YtlmdpamehhcblaaGreatDoorD.nDigits_le_iff _ _ (by decide)).2 (by decide)
    exact Nat.le_trans this (by decide)
  have lmin : (decDigits (-9223372036854775808 : Int).natAbs).length ≤ 3000 := by
    have : (decDigits 9223372036854775808).length ≤ 19 := by rw [YtlmdpamehhcblaaGreatDoorD.decDigits_len]; exact (YtlmdpamehhcblaaGreatDoorD.nDigits_le_iff _ _ (by decide)).2 (by decide)
    exact Nat.le_trans this (by decide)
  have R1 := fun w => order1_c w n 9223372036854775807 (by omega) lmax
  have R2 := fun w => order1_c w n (-9223372036854775808) (by omega) lmin
  rw [Int.sign_eq_neg_one_of_neg (by omega)] at R1
  rw [Int.sign_eq_one_of_pos (by omega)] at R2
  have R1 := Lib.hid R1; have R2 := Lib.hid R2
  have HS := Lib.hid (fun w => size1_i w n)
  have HB := fun w => below1_i w n
  have hall := YtlmdpamehhcblaaGreatDoorD.decDigits_all n.natAbs
  have hv := YtlmdpamehhcblaaGreatDoorD.val_decDigits n.natAbs
  have HV := Lib.hid (val_take_lt hall l18)
  have HD := Lib.hid (fun j hj => dig_get hall j hj)
  have hsz := bs_size (decDigits n.natAbs)
  have HT := Lib.hid (show val ((decDigits n.natAbs).take (decDigits n.natAbs).length) = n.natAbs by rw [List.take_length, hv])
  clear hall hv lmax lmin
  generalize bs (itoa n) = a at *
  generalize bs (itoa 9223372036854775807) = mx at *
  generalize bs (itoa (-9223372036854775808)) = mn at *
  generalize hs : decDigits n.natAbs = s at *
  have hsz2 : (bs s).size ≤ 18 := by omega
  clear hs
  by_cases hneg : n < 0
  · rw [decide_eq_true hneg] at HB
    have HB := Lib.hid HB
    go_enter Tryz.func168, Tryz.ntmps168
    go_wp2_with fail
    refine (HK.out _).mono ?_
    rintro e w1 ⟨rfl, rfl⟩
    go_wp2_with fail
    refine (O1.out _).mono ?_
    rintro e w2 ⟨rfl, hg2⟩
    go_wp2_with fail
    refine (R1.out _).mono ?_
    rintro e w3 ⟨rfl, hg3⟩
    go_wp2_with fail
    refine (O2.out _).mono ?_
    rintro e w4 ⟨rfl, rfl⟩
    go_wp2_with fail
    refine (R2.out _).mono ?_
    rintro e w5 ⟨rfl, hg5⟩
    have G5 := Lib.hid ((hg2.trans hg3).trans hg5)
    clear hg2 hg3 hg5
    go_wp2_with fail
    refine (HS.out _).mono ?_
    rintro e w6 ⟨rfl, rfl⟩
    go_wp2_with fail
    go_loopg [5, 7] s.length (fun k v i wr => ∃ j : Nat, k + j = s.length ∧ i = .int .i64 j ∧ v = .int .i64 (-(val (s.take j) : Int)) ∧ wr = w6)
    case atStart => exact ⟨0, rfl, rfl, by rw [List.take_zero, YtlmdpamehhcblaaGreatDoorD.val_nil]; rfl, rfl⟩
    case round =>
      obtain ⟨j, hj, rfl, rfl, rfl⟩ := hrel
      by_cases hlt : j < (bs s).size
      · obtain ⟨d, hd, hg, hval⟩ := HD.out j hlt
        have b1 := HV.out j
        have b2 := HV.out (j + 1)
        rw [hval] at b2
        have hr := Lib.hid hval
        clear hval
        generalize val (s.take j) = V at *
        go_wp2_with fail
        refine (HB.out _).mono ?_
        rintro e w7 ⟨rfl, rfl⟩
        go_wp2_with fail
        go_roundg (gk - 1)
        case measure => omega
        case rel => exact ⟨j + 1, by omega, by go_num, by rw [hr.out]; go_num, rfl⟩
      · have hjl : j = s.length := by omega
        have ht := HT.out
        rw [← hjl] at ht
        rw [ht, show -((n.natAbs : Nat) : Int) = n by omega]
        go_wp2_with fail
        go_ret2
        exact ⟨rfl, G5.out⟩
  · rw [decide_eq_false hneg] at HB
    have HB := Lib.hid HB
    go_enter Tryz.func168, Tryz.ntmps168
    go_wp2_with fail
    refine (HK.out _).mono ?_
    rintro e w1 ⟨rfl, rfl⟩
    go_wp2_with fail
    refine (O1.out _).mono ?_
    rintro e w2 ⟨rfl, hg2⟩
    go_wp2_with fail
    refine (R1.out _).mono ?_
    rintro e w3 ⟨rfl, hg3⟩
    go_wp2_with fail
    refine (O2.out _).mono ?_
    rintro e w4 ⟨rfl, rfl⟩
    go_wp2_with fail
    refine (R2.out _).mono ?_
    rintro e w5 ⟨rfl, hg5⟩
    have G5 := Lib.hid ((hg2.trans hg3).trans hg5)
    clear hg2 hg3 hg5
    go_wp2_with fail
    refine (HS.out _).mono ?_
    rintro e w6 ⟨rfl, rfl⟩
    go_wp2_with fail
    go_loopg [5, 7] s.length (fun k v i wr => ∃ j : Nat, k + j = s.length ∧ i = .int .i64 j ∧ v = .int .i64 (val (s.take j) : Int) ∧ wr = w6)
    case atStart => exact ⟨0, rfl, rfl, by rw [List.take_zero, YtlmdpamehhcblaaGreatDoorD.val_nil]; rfl, rfl⟩
    case round =>
      obtain ⟨j, hj, rfl, rfl, rfl⟩ := hrel
      by_cases hlt : j < (bs s).size
      · obtain ⟨d, hd, hg, hval⟩ := HD.out j hlt
        have b1 := HV.out j
        have b2 := HV.out (j + 1)
        rw [hval] at b2
        have hr := Lib.hid hval
        clear hval
        generalize val (s.take j) = V at *
        go_wp2_with fail
        refine (HB.out _).mono ?_
        rintro e w7 ⟨rfl, rfl⟩
        go_wp2_with fail
        go_roundg (gk - 1)
        case measure => omega
        case rel => exact ⟨j + 1, by omega, by go_num, by rw [hr.out]; go_num, rfl⟩
      · have hjl : j = s.length := by omega
        have ht := HT.out
        rw [← hjl] at ht
        rw [ht, show ((n.natAbs : Nat) : Int) = n by omega]
        go_wp2_with fail
        go_ret2
        exact ⟨rfl, G5.out⟩
end Go.Proofs.YtlmdpamehhcblaaGreatDoor
/- Contracts of the reference of units: digits, natural, cut, small, ratio. -/
namespace Go.Proofs.YtlmdpamehhcblaaGreatDoor
open Go.RowKit
open Go.Lib (itoa decDigits)
open YtlmdpamehhcblaaGreatDoorD (isDig val natural digs cutc unum)

theorem take_all {s : List UInt8} {j : Nat} (h : j < s.length) (ha : (s.take j).all isDig = true) (hd : isDig s[j] = true) : (s.take (j + 1)).all isDig = true := by
  rw [List.take_add_one, List.getElem?_eq_getElem h, Option.toList_some, List.all_append, ha]
  simp [hd]
set_option maxHeartbeats 1000000 in
theorem digits13_c (w : World) (s : List UInt8) (hl : s.length ≤ 3000) : Calls Tryz.prog 220 #[.string (bs s)] w fun e w' => e = .returned (.bool (digs s)) ∧ w' = w := by
  have hsz := bs_size s
  go_enter Tryz.func220, Tryz.ntmps220
  go_wp2_with fail
  go_loopg [3] s.length (fun k i wr => ∃ j : Nat, k + j = s.length ∧ i = .int .i64 j ∧ Aside ((s.take j).all isDig = true) ∧ wr = w)
  case atStart => exact ⟨0, rfl, rfl, rfl, rfl⟩
  case round =>
    obtain ⟨j, hj, rfl, A, rfl⟩ := hrel
    by_cases hlt : j < s.length
    · have gx : ((bs s)[j]'(by omega)).toNat = s[j].toNat := rfl
      have hb := UInt8.toNat_lt s[j]
      by_cases hd : isDig s[j] = true
      · obtain ⟨d1, d2⟩ := (YtlmdpamehhcblaaGreatDoorD.isDig_iff _).1 hd
        have A2 : Aside ((s.take (j + 1)).all isDig = true) := take_all hlt A.out hd
        clear A hd
        generalize s[j].toNat = c at *
        go_wp2_with fail
        go_roundg (gk - 1)
        case measure => omega
        case rel => exact ⟨j + 1, by omega, by go_num, A2.out, rfl⟩
      · have hno : digs s = false := by
          unfold YtlmdpamehhcblaaGreatDoorD.digs
          have : s.all isDig = false := by
            rw [Bool.eq_false_iff]
            intro h
            exact hd (List.all_eq_true.1 h _ (List.getElem_mem hlt))
          rw [this]; simp
        have hn : s[j].toNat < 48 ∨ 57 < s[j].toNat := by
          rcases Nat.lt_or_ge s[j].toNat 48 with h | h
          · exact .inl h
          · right
            rcases Nat.lt_or_ge 57 s[j].toNat with h2 | h2
            · exact h2
            · exact absurd ((YtlmdpamehhcblaaGreatDoorD.isDig_iff _).2 ⟨h, h2⟩) hd
        have HN := Lib.hid hno
        clear A hd hno
        generalize s[j].toNat = c at *
        rcases hn with hn | hn
        · go_wp2_with fail
          go_ret
          exact ⟨by rw [HN.out]; rfl, rfl⟩
        · have hn2 : ¬ c < 48 := by omega
          go_wp2_with fail
          go_ret
          exact ⟨by rw [HN.out]; rfl, rfl⟩
    · have hjl : j = s.length := by omega
      have ha := A.out
      rw [hjl, List.take_length] at ha
      have hds : digs s = decide (0 < s.length) := by
        unfold YtlmdpamehhcblaaGreatDoorD.digs
        rw [ha, Bool.and_true]
        cases s with
        | nil => rfl
        | cons c r => rfl
      have HN := Lib.hid hds
      clear hds ha A
      go_wp2_with fail
      go_ret
      exact ⟨by rw [HN.out]; simp, rfl⟩
set_option maxHeartbeats 2000000 in
theorem natural13_c (w : World) (s : List UInt8) (hl : s.length ≤ 3000) : Calls Tryz.prog 219 #[.string (bs s)] w fun e w' => e = .returned (.bool (natural s)) ∧ w' = w := by
  have HD := fun w => digits13_c w s hl
  cases hd : digs s with
  | false =>
    have hn : natural s = false := by
      unfold YtlmdpamehhcblaaGreatDoorD.digs at hd
      unfold YtlmdpamehhcblaaGreatDoorD.natural
      rw [hd]; rfl
    rw [hd] at HD
    rw [hn]
    have HD := Lib.hid HD
    clear hd hn
    generalize bs s = S at *
    go_enter Tryz.func219, Tryz.ntmps219
    go_wp2_with fail
    refine (HD.out _).mono ?_
    rintro e w1 ⟨rfl, rfl⟩
    go_wp2_with fail
    go_ret
    exact ⟨rfl, rfl⟩
  | true =>
    obtain ⟨h0, h1⟩ := YtlmdpamehhcblaaGreatDoorD.digs_all hd
    have hn : natural s = (decide (s.length = 1) || s.head? != some 48) := by
      unfold YtlmdpamehhcblaaGreatDoorD.digs at hd
      unfold YtlmdpamehhcblaaGreatDoorD.natural
      have e1 : (s.length == 1) = decide (s.length = 1) := by rw [Bool.eq_iff_iff]; simp
      rw [hd, e1]; rfl
    have hz : 0 < (bs s).size := by rw [bs_size]; exact List.length_pos_iff.2 h0
    have h5 := get48 s hz
    have hsz := bs_size s
    rw [hd] at HD
    rw [hn]
    have HD := Lib.hid HD
    clear hd hn h0 h1
    by_cases hl1 : s.length = 1
    · rw [decide_eq_true hl1, Bool.true_or]
      have hs1 : (bs s).size = 1 := by omega
      clear hsz h5
      generalize bs s = S at *
      go_enter Tryz.func219, Tryz.ntmps219
      go_wp2_with fail
      refine (HD.out _).mono ?_
      rintro e w1 ⟨rfl, rfl⟩
      go_wp2_with fail
      go_ret
      exact ⟨rfl, rfl⟩
    · rw [decide_eq_false hl1, Bool.false_or]
      have hs1 : ¬ (bs s).size = 1 := by omega
      have hb1 : (((bs s).size : Int) == 1) = false := by rw [beq_eq_false_iff_ne]; omega
      clear hsz
      cases hh : (s.head? != some 48) <;> rw [hh] at h5 <;> clear hh
      all_goals (
        generalize bs s = S at *
        go_enter Tryz.func219, Tryz.ntmps219
        go_wp2_with fail
        refine (HD.out _).mono ?_
        rintro e w1 ⟨rfl, rfl⟩
        go_wp2_with fail
        go_ret
        first | exact ⟨rfl, rfl⟩ | exact ⟨by simp [hb1, h5], rfl⟩)
theorem get_c (c : UInt8) (s : List UInt8) (j : Nat) (hj : j < (bs s).size) : ((((bs s)[j]'hj).toNat : Int) == (c.toNat : Int)) = decide (s[j]'(by rw [bs_size] at hj; exact hj) = c) := by
  rw [Bool.eq_iff_iff, beq_iff_eq, decide_eq_true_iff]
  show (((s[j]'(by rw [bs_size] at hj; exact hj)).toNat : Int) = (c.toNat : Int)) ↔ _
  constructor
  · intro h; exact UInt8.toNat_inj.1 (by omega)
  · intro h; rw [h]
theorem takec_bs (c : UInt8) (a b : List UInt8) : (bs (a ++ c :: b)).extract 0 a.length = bs a := by
  rw [bs_extract, List.drop_zero, Nat.sub_zero, List.take_left]
theorem dropc_bs (c : UInt8) (a b : List UInt8) : (bs (a ++ c :: b)).extract (a.length + 1) (a.length + (b.length + 1)) = bs b := by
  rw [bs_extract]
  congr 1
  rw [List.take_of_length_le (by simp; omega), show a ++ c :: b = (a ++ [c]) ++ b by simp, List.drop_left' (by simp)]
def RetCut (c : UInt8) (s : List UInt8) (w : World) (e : Ending) (w' : World) : Prop := e = .returned (.tuple #[.string (bs (cutc c s).1), .string (bs (cutc c s).2.1), .bool (cutc c s).2.2]) ∧ Gr w w'
set_option maxHeartbeats 2000000 in
theorem cut13_c (w : World) (s : List UInt8) (c : UInt8) (C : Int) (hC : (c.toNat : Int) = C) (hl : s.length ≤ 3000) : Calls Tryz.prog 80 #[.string (bs s), .int .u8 C] w (RetCut c s w) := by
  unfold RetCut
  have hsz := bs_size s
  have HG := fun j hj => get_c c s j hj
  rw [hC] at HG
  by_cases hm : c ∈ s
  · obtain ⟨a, b, rfl, ha⟩ : ∃ a b, s = a ++ c :: b ∧ c ∉ a := by
      rcases YtlmdpamehhcblaaGreatDoorD.cutc_spec c s with ⟨_, _, he, hn⟩ | ⟨h, _⟩
      · exact ⟨_, _, he, hn⟩
      · exact absurd hm h
    rw [YtlmdpamehhcblaaGreatDoorD.cutc_some ha]
    have HC := Lib.hid (fun j (hj : j < (bs (a ++ c :: b)).size) (hl : j < a.length) => (HG j hj).trans (decide_eq_false (fun e => ha (by rw [List.getElem_append_left hl] at e; rw [← e]; exact List.getElem_mem _))))
    have HD := Lib.hid (fun (hj : a.length < (bs (a ++ c :: b)).size) => (HG a.length hj).trans (decide_eq_true (by simp)))
    rw [List.length_append, List.length_cons] at hsz hl
    have t1 := Lib.hid (takec_bs c a b)
    have t2 := Lib.hid (dropc_bs c a b)
    clear ha hm HG hC
    generalize bs a = A at *
    generalize bs b = B at *
    go_enter Tryz.func80, Tryz.ntmps80
    go_wp2_with fail
    go_loopg [7] a.length (fun k i wr => ∃ j : Nat, k + j = a.length ∧ i = .int .i64 j ∧ wr = w)
    case atStart => exact ⟨0, rfl, rfl, rfl⟩
    case round =>
      obtain ⟨j, hj, rfl, rfl⟩ := hrel
      have hlt : j < (bs (a ++ c :: b)).size := by omega
      by_cases hla : j < a.length
      · have hc := HC.out j hlt hla
        clear HC HD t1 t2
        generalize bs (a ++ c :: b) = S at *
        go_wp2_with fail
        go_roundg (gk - 1)
        case measure => omega
        case rel => exact ⟨j + 1, by omega, by go_num, rfl⟩
      · have hja : j = a.length := by omega
        subst hja
        have hc := HD.out hlt
        clear HC HD
        generalize bs (a ++ c :: b) = S at *
        have hb1 : (a.length : Int) ≤ S.size := by omega
        have hb2 : (a.length : Int) + 1 ≤ S.size := by omega
        have i1 : IntKind.i64.wrap ((a.length : Int) + 1) = a.length + 1 := IntWalk.i64_in _ (by omega)
        have i2 : ((a.length : Int) + 1).toNat = a.length + 1 := by omega
        generalize a.length = la at *
        go_wp2_with fail
        go_quiet (fail)
        go_wp2_with fail
        go_ret3
        exact ⟨by rw [← t1.out, ← t2.out]; simp, (Gr.refl _).drewN _⟩
  · rw [YtlmdpamehhcblaaGreatDoorD.cutc_none hm]
    have HC := Lib.hid (fun j (hj : j < (bs s).size) => (HG j hj).trans (decide_eq_false (fun e => hm (by rw [← e]; exact List.getElem_mem _))))
    clear HG hm hC
    go_enter Tryz.func80, Tryz.ntmps80
    go_wp2_with fail
    go_loopg [7] s.length (fun k i wr => ∃ j : Nat, k + j = s.length ∧ i = .int .i64 j ∧ wr = w)
    case atStart => exact ⟨0, rfl, rfl, rfl⟩
    case round =>
      obtain ⟨j, hj, rfl, rfl⟩ := hrel
      by_cases hlt : j < (bs s).size
      · have hc := HC.out j hlt
        clear HC
        generalize bs s = S at *
        go_wp2_with fail
        go_roundg (gk - 1)
        case measure => omega
        case rel => exact ⟨j + 1, by omega, by go_num, rfl⟩
      · go_wp2_with fail
        go_ret3
        exact ⟨rfl, Gr.refl _⟩
set_option maxHeartbeats 1000000 in
theorem small13_c (w : World) (s : List UInt8) (hall : s.all isDig = true) (h18 : s.length ≤ 18) : Calls Tryz.prog 221 #[.string (bs s)] w fun e w' => e = .returned (.int .i64 (val s : Int)) ∧ w' = w := by
  have HV := Lib.hid (val_take_lt hall h18)
  have HD := Lib.hid (fun j hj => dig_get hall j hj)
  have hsz := bs_size s
  clear hall
  go_enter Tryz.func221, Tryz.ntmps221
  go_wp2_with fail
  go_loopg [3, 4] s.length (fun k v i wr => ∃ j : Nat, k + j = s.length ∧ i = .int .i64 j ∧ v = .int .i64 (val (s.take j) : Nat) ∧ wr = w)
  case atStart => exact ⟨0, rfl, rfl, by rw [List.take_zero, YtlmdpamehhcblaaGreatDoorD.val_nil]; rfl, rfl⟩
  case round =>
    obtain ⟨j, hj, rfl, rfl, rfl⟩ := hrel
    by_cases hlt : j < (bs s).size
    · obtain ⟨d, hd, hg, hval⟩ := HD.out j hlt
      have b1 := HV.out j
      have b2 := HV.out (j + 1)
      rw [hval] at b2
      have hr := Lib.hid hval
      clear hval
      generalize val (s.take j) = V at *
      go_wp2_with fail
      go_roundg (gk - 1)
      case measure => omega
      case rel => exact ⟨j + 1, by omega, by go_num, by rw [hr.out]; go_num, rfl⟩
    · have hjl : j = s.length := by omega
      rw [hjl, List.take_length]
      go_wp2_with fail
      go_ret
      exact ⟨rfl, rfl⟩
end Go.Proofs.YtlmdpamehhcblaaGreatDoor
/- Contracts of the reference of units: ratio, Number, inRange, Exact, Parse. -/
namespace Go.Proofs.YtlmdpamehhcblaaGreatDoor
open Go.RowKit
open Go.Lib (itoa decDigits)
open YtlmdpamehhcblaaGreatDoorD (isDig val natural digs cutc unum rtext uexact uparse uint uidx uval uword usign usize ubeyond)

theorem pow_le6 {j n : Nat} (h : j ≤ n) (hn : n ≤ 6) : 10 ^ j ≤ 1000000 := YtlmdpamehhcblaaGreatDoorD.pow6 (Nat.le_trans h hn)
set_option maxHeartbeats 4000000 in
theorem ratio13_c (w : World) (s : List UInt8) (hl : s.length ≤ 3000) : Calls Tryz.prog 165 #[.string (bs s)] w fun e w' => e = .returned (numV (unum s)) ∧ Gr w w' := by
  have C1 := fun w => cut13_c w s 46 46 rfl hl
  unfold RetCut at C1
  have l1 := cutc_le 46 s
  generalize hr : unum s = r
  unfold YtlmdpamehhcblaaGreatDoorD.unum at hr
  cases hp : (cutc 46 s).2.2 with
  | true =>
    rw [if_pos hp] at hr
    rw [hp] at C1
    generalize (cutc 46 s).1 = a at *
    generalize (cutc 46 s).2.1 = b at *
    have D1 := fun w => natural13_c w a (by omega)
    have D2 := fun w => digits13_c w b (by omega)
    have HC := Lib.hid C1
    have sa := bs_size a
    have sb := bs_size b
    have l1' := l1.1
    have l2' := l1.2
    clear C1 hp l1
    cases ha : natural a with
    | false =>
      rw [ha] at D1 hr
      simp only [Bool.not_false, Bool.true_or, if_true] at hr
      subst hr
      have D1 := Lib.hid D1
      clear ha D2
      go_enter Tryz.func165, Tryz.ntmps165
      go_wp2_with fail
      refine (HC.out _).mono ?_
      rintro e w1 ⟨rfl, hg1⟩
      go_wp2_with fail
      refine (D1.out _).mono ?_
      rintro e w2 ⟨rfl, rfl⟩
      go_wp2_with fail
      go_ret3
      exact ⟨rfl, hg1⟩
    | true =>
      cases hb : digs b with
      | false =>
        rw [ha] at D1 hr
        rw [hb] at D2 hr
        simp only [Bool.not_false, Bool.not_true, Bool.false_or, if_true] at hr
        subst hr
        have D1 := Lib.hid D1
        have D2 := Lib.hid D2
        clear ha hb
        go_enter Tryz.func165, Tryz.ntmps165
        go_wp2_with fail
        refine (HC.out _).mono ?_
        rintro e w1 ⟨rfl, hg1⟩
        go_wp2_with fail
        refine (D1.out _).mono ?_
        rintro e w2 ⟨rfl, rfl⟩
        go_wp2_with fail
        refine (D2.out _).mono ?_
        rintro e w2 ⟨rfl, rfl⟩
        go_wp2_with fail
        go_ret3
        exact ⟨rfl, hg1⟩
      | true =>
        rw [ha] at D1 hr
        rw [hb] at D2 hr
        simp only [Bool.not_true, Bool.false_or, Bool.false_eq_true, if_false] at hr
        have D1 := Lib.hid D1
        have D2 := Lib.hid D2
        have n1 := YtlmdpamehhcblaaGreatDoorD.natural_all ha
        have n2 := YtlmdpamehhcblaaGreatDoorD.digs_all hb
        by_cases h6 : 6 < a.length ∨ 6 < b.length
        · rw [if_pos h6] at hr
          subst hr
          clear ha hb n1 n2
          rw [← sa, ← sb] at h6
          rcases (show 6 < (bs a).size ∨ (¬ 6 < (bs a).size ∧ 6 < (bs b).size) by omega) with h7 | ⟨h7, h8⟩
          all_goals (
            clear h6
            clear sa sb l1' l2'
            generalize bs a = A at *
            generalize bs b = B at *
            go_enter Tryz.func165, Tryz.ntmps165
            go_wp2_with fail
            refine (HC.out _).mono ?_
            rintro e w1 ⟨rfl, hg1⟩
            go_wp2_with fail
            refine (D1.out _).mono ?_
            rintro e w2 ⟨rfl, rfl⟩
            go_wp2_with fail
            refine (D2.out _).mono ?_
            rintro e w2 ⟨rfl, rfl⟩
            go_wp2_with fail
            go_ret3
            exact ⟨rfl, hg1⟩)
        · rw [if_neg h6] at hr
          have b1 := YtlmdpamehhcblaaGreatDoorD.val6 n1.2 (by omega)
          have b2 := YtlmdpamehhcblaaGreatDoorD.val6 n2.2 (by omega)
          have b3 := YtlmdpamehhcblaaGreatDoorD.pow6 (show b.length ≤ 6 by omega)
          have V1 := Lib.hid (fun w => small13_c w a n1.2 (by omega))
          have V2 := Lib.hid (fun w => small13_c w b n2.2 (by omega))
          have m1 : val a * 10 ^ b.length ≤ 1000000 * 1000000 := Nat.mul_le_mul (by omega) b3
          have m2 : ((val a : Nat) : Int) * ((10 ^ b.length : Nat) : Int) ≤ 1000000000000 := by
            rw [← Int.natCast_mul]; omega
          have m3 : 0 ≤ ((val a : Nat) : Int) * ((10 ^ b.length : Nat) : Int) := by rw [← Int.natCast_mul]; omega
          have er : numV r = .tuple #[.int .i64 (((val a : Nat) : Int) * ((10 ^ b.length : Nat) : Int) + (val b : Nat)), .int .i64 ((10 ^ b.length : Nat) : Int), .int .i64 0] := by
            rw [← hr]; unfold numV; simp
          rw [er]
          have h7 : ¬ 6 < (bs a).size := by omega
          have h8 : ¬ 6 < (bs b).size := by omega
          have hb6 : b.length ≤ 6 := by omega
          have HPW := Lib.hid (fun j (hj : j ≤ b.length) => pow_le6 hj hb6)
          have HPS := Lib.hid (fun j => show (((10 ^ j : Nat) : Int) * 10 = ((10 ^ (j + 1) : Nat) : Int)) by rw [Nat.pow_succ, Int.natCast_mul]; rfl)
          have hbs : ((bs b).size : Int) = b.length := by omega
          have P0 := Lib.hid (show ((10 ^ 0 : Nat) : Int) = 1 from rfl)
          clear ha hb h6 n1 n2 m1 hr er b3
          obtain ⟨P, hP⟩ : ∃ P : Nat → Int, P = fun j => ((10 ^ j : Nat) : Int) := ⟨_, rfl⟩
          have e1 : ((10 ^ b.length : Nat) : Int) = P b.length := by rw [hP]
          have HPW2 := Lib.hid (fun j (hj : j ≤ b.length) => show 0 ≤ P j ∧ P j ≤ 1000000 by rw [hP]; have := HPW.out j hj; exact ⟨Int.natCast_nonneg _, by show ((10 ^ j : Nat) : Int) ≤ 1000000; omega⟩)
          have HPS2 := Lib.hid (fun j => show P j * 10 = P (j + 1) by rw [hP]; exact HPS.out j)
          have P02 := Lib.hid (show P 0 = 1 by rw [hP]; exact P0.out)
          rw [e1] at m2 m3 ⊢
          clear e1 hP HPW HPS P0 sa sb
          go_enter Tryz.func165, Tryz.ntmps165
          go_wp2_with fail
          refine (HC.out _).mono ?_
          rintro e w1 ⟨rfl, hg1⟩
          go_wp2_with fail
          refine (D1.out _).mono ?_
          rintro e w2 ⟨rfl, rfl⟩
          go_wp2_with fail
          refine (D2.out _).mono ?_
          rintro e w2 ⟨rfl, rfl⟩
          go_wp2_with fail
          go_loopg [8, 9] b.length (fun k d i wr => ∃ j : Nat, k + j = b.length ∧ i = .int .i64 j ∧ d = .int .i64 (P j) ∧ wr = w2)
          case atStart => exact ⟨0, rfl, rfl, by rw [P02.out], rfl⟩
          case round =>
            obtain ⟨j, hj, rfl, rfl, rfl⟩ := hrel
            by_cases hlt : j < b.length
            · obtain ⟨p0, p1⟩ := HPW2.out j (by omega)
              have ps := HPS2.out j
              go_wp2_with fail
              go_roundg (gk - 1)
              case measure => omega
              case rel => exact ⟨j + 1, by omega, by go_num, by first | rfl | rw [ps], rfl⟩
            · have hjb : j = b.length := by omega
              subst hjb
              obtain ⟨p0, p1⟩ := HPW2.out b.length (by omega)
              go_wp2_with fail
              refine (V1.out _).mono ?_
              rintro e w3 ⟨rfl, rfl⟩
              go_wp2_with fail
              refine (V2.out _).mono ?_
              rintro e w3 ⟨rfl, rfl⟩
              go_wp2_with fail
              go_ret3
              exact ⟨rfl, hg1⟩
  | false =>
    rw [hp] at C1 hr
    simp only [Bool.false_eq_true, if_false] at hr
    have C2 := fun w => cut13_c w s 47 47 rfl hl
    unfold RetCut at C2
    have l2 := cutc_le 47 s
    generalize (cutc 46 s).1 = a0 at *
    generalize (cutc 46 s).2.1 = b0 at *
    obtain ⟨l2a, l2b⟩ := l2
    generalize hok : (cutc 47 s).2.2 = ok at *
    generalize (cutc 47 s).1 = a at *
    generalize (cutc 47 s).2.1 = b' at *
    have HC := Lib.hid C1
    have HC2 := Lib.hid C2
    clear C1 C2 hp l1 hok
    generalize hbb : (if ok = true then b' else [49]) = b at hr
    have lb : b.length ≤ 3000 := by
      rw [← hbb]; split
      · omega
      · simp
    have D1 := fun w => natural13_c w a (by omega)
    have D2 := fun w => natural13_c w b lb
    have sa := bs_size a
    have sb := bs_size b
    have Z := is48 b
    have hsel : (ok = true ∧ b' = b) ∨ (ok = false ∧ b = [49]) := by
      cases ok
      · exact .inr ⟨rfl, by simpa using hbb.symm⟩
      · exact .inl ⟨rfl, by simpa using hbb⟩
    clear hbb
    cases ha : natural a with
    | false =>
      rw [ha] at D1 hr
      simp only [Bool.not_false, Bool.true_or, if_true] at hr
      subst hr
      have D1 := Lib.hid D1
      clear ha Z D2
      rcases hsel with ⟨rfl, rfl⟩ | ⟨rfl, rfl⟩
      all_goals (
        go_enter Tryz.func165, Tryz.ntmps165
        go_wp2_with fail
        refine (HC.out _).mono ?_
        rintro e w1 ⟨rfl, hg1⟩
        go_wp2_with fail
        refine (HC2.out _).mono ?_
        rintro e w2 ⟨rfl, hg2⟩
        go_wp2_with fail
        refine (D1.out _).mono ?_
        rintro e w3 ⟨rfl, rfl⟩
        go_wp2_with fail
        go_ret3
        exact ⟨rfl, hg1.trans hg2⟩)
    | true =>
      cases hb : natural b with
      | false =>
        rw [ha] at D1 hr
        rw [hb] at D2 hr
        simp only [Bool.not_false, Bool.not_true, Bool.false_or, if_true] at hr
        subst hr
        have D1 := Lib.hid D1
        have D2 := Lib.hid D2
        clear ha Z
        rcases hsel with ⟨rfl, rfl⟩ | ⟨rfl, rfl⟩
        · clear hb
          go_enter Tryz.func165, Tryz.ntmps165
          go_wp2_with fail
          refine (HC.out _).mono ?_
          rintro e w1 ⟨rfl, hg1⟩
          go_wp2_with fail
          refine (HC2.out _).mono ?_
          rintro e w2 ⟨rfl, hg2⟩
          go_wp2_with fail
          refine (D1.out _).mono ?_
          rintro e w3 ⟨rfl, rfl⟩
          go_wp2_with fail
          refine (D2.out _).mono ?_
          rintro e w3 ⟨rfl, rfl⟩
          go_wp2_with fail
          go_ret3
          exact ⟨rfl, hg1.trans hg2⟩
        · exact absurd hb (by decide)
      | true =>
        rw [ha] at D1 hr
        rw [hb] at D2 hr
        simp only [Bool.not_true, Bool.false_or, Bool.false_eq_true, if_false] at hr
        have D1 := Lib.hid D1
        have D2 := Lib.hid D2
        have n1 := YtlmdpamehhcblaaGreatDoorD.natural_all ha
        have n2 := YtlmdpamehhcblaaGreatDoorD.natural_all hb
        by_cases h6 : 6 < a.length ∨ 6 < b.length
        · rw [if_pos h6] at hr
          subst hr
          clear ha hb Z n1 n2
          rw [← sa, ← sb] at h6
          rcases (show 6 < (bs a).size ∨ (¬ 6 < (bs a).size ∧ 6 < (bs b).size) by omega) with h7 | ⟨h7, h8⟩
          all_goals (
            clear h6 sa sb
            rcases hsel with ⟨rfl, rfl⟩ | ⟨rfl, rfl⟩
            all_goals (first | (exfalso; rw [bs_size] at h8; exact absurd h8 (by decide)) | (
              go_enter Tryz.func165, Tryz.ntmps165
              go_wp2_with fail
              refine (HC.out _).mono ?_
              rintro e w1 ⟨rfl, hg1⟩
              go_wp2_with fail
              refine (HC2.out _).mono ?_
              rintro e w2 ⟨rfl, hg2⟩
              go_wp2_with fail
              refine (D1.out _).mono ?_
              rintro e w3 ⟨rfl, rfl⟩
              go_wp2_with fail
              refine (D2.out _).mono ?_
              rintro e w3 ⟨rfl, rfl⟩
              go_wp2_with fail
              go_ret3
              exact ⟨rfl, hg1.trans hg2⟩)))
        · rw [if_neg h6] at hr
          have h7 : ¬ 6 < (bs a).size := by omega
          have h8 : ¬ 6 < (bs b).size := by omega
          by_cases hz : b = [48]
          · rw [if_pos hz] at hr
            rw [decide_eq_true hz] at Z
            subst hr
            clear ha hb h6 n1 n2
            rcases hsel with ⟨rfl, rfl⟩ | ⟨rfl, rfl⟩
            · clear hz sa sb
              go_enter Tryz.func165, Tryz.ntmps165
              go_wp2_with fail
              refine (HC.out _).mono ?_
              rintro e w1 ⟨rfl, hg1⟩
              go_wp2_with fail
              refine (HC2.out _).mono ?_
              rintro e w2 ⟨rfl, hg2⟩
              go_wp2_with fail
              refine (D1.out _).mono ?_
              rintro e w3 ⟨rfl, rfl⟩
              go_wp2_with fail
              refine (D2.out _).mono ?_
              rintro e w3 ⟨rfl, rfl⟩
              go_wp2_with fail
              go_ret3
              exact ⟨rfl, hg1.trans hg2⟩
            · exact absurd hz (by decide)
          · rw [if_neg hz] at hr
            rw [decide_eq_false hz] at Z
            have V1 := Lib.hid (fun w => small13_c w a n1.2 (by omega))
            have V2 := Lib.hid (fun w => small13_c w b n2.2 (by omega))
            have er : numV r = .tuple #[.int .i64 ((val a : Nat) : Int), .int .i64 ((val b : Nat) : Int), .int .i64 0] := by
              rw [← hr]; rfl
            rw [er]
            clear ha hb h6 hz n1 n2 hr er sa sb
            generalize ((val a : Nat) : Int) = va at *
            generalize ((val b : Nat) : Int) = vb at *
            rcases hsel with ⟨rfl, rfl⟩ | ⟨rfl, rfl⟩
            all_goals (
              go_enter Tryz.func165, Tryz.ntmps165
              go_wp2_with fail
              refine (HC.out _).mono ?_
              rintro e w1 ⟨rfl, hg1⟩
              go_wp2_with fail
              refine (HC2.out _).mono ?_
              rintro e w2 ⟨rfl, hg2⟩
              go_wp2_with fail
              refine (D1.out _).mono ?_
              rintro e w3 ⟨rfl, rfl⟩
              go_wp2_with fail
              refine (D2.out _).mono ?_
              rintro e w3 ⟨rfl, rfl⟩
              go_wp2_with fail
              refine (V1.out _).mono ?_
              rintro e w3 ⟨rfl, rfl⟩
              go_wp2_with fail
              refine (V2.out _).mono ?_
              rintro e w3 ⟨rfl, rfl⟩
              go_wp2_with fail
              go_ret3
              exact ⟨rfl, hg1.trans hg2⟩)
def numR : Except Int Rat → Value
  | .ok x => .tuple #[.string (bs (rtext x)), .int .i64 0]
  | .error e => .tuple #[.string (bs []), .int .i64 e]
/-- A number with a sign, or the number of the error. -/
def snumR (f : List UInt8) : Except Int Rat := match unum (usize f) with
  | .error e => .error e
  | .ok (n, d) => .ok (mkRat (usign (Lib.hasPrefix f [45]) n) d)
theorem pre_minus (f : List UInt8) : Lib.hasPrefix f [45] = YtlmdpamehhcblaaGreatDoorD.minus f := by
  unfold Lib.hasPrefix YtlmdpamehhcblaaGreatDoorD.minus
  cases f with
  | nil => rfl
  | cons c r =>
    simp only [List.isPrefixOf, List.head?_cons, Bool.and_true]
    rw [Bool.eq_iff_iff, beq_iff_eq, beq_iff_eq, Option.some.injEq]
    exact eq_comm
set_option maxHeartbeats 2000000 in
theorem Number13_c (w : World) (f : List UInt8) (hl : f.length ≤ 3000) : Calls Tryz.prog 81 #[.string (bs f)] w fun e w' => e = .returned (numR (snumR f)) ∧ Gr w w' := by
  have esz : usize f = YtlmdpamehhcblaaGreatDoorD.mag f := trim_minus f
  have hm := pre_minus f
  have lm := mag_le f
  have HR := fun w => ratio13_c w (YtlmdpamehhcblaaGreatDoorD.mag f) (by omega)
  have hsz := bs_size f
  generalize hr : snumR f = r
  unfold snumR at hr
  rw [esz, hm] at hr
  cases hn : unum (YtlmdpamehhcblaaGreatDoorD.mag f) with
  | error e =>
    obtain ⟨z0, z1, z2⟩ := unum_err hn
    rw [hn] at hr HR
    simp only [] at hr
    simp only [numV] at HR
    subst hr
    have HR := Lib.hid HR
    simp only [numR]
    clear hn esz
    cases hmm : YtlmdpamehhcblaaGreatDoorD.minus f with
    | true =>
      have hf : f ≠ [] := by intro e; rw [e] at hmm; cases hmm
      have hz : 0 < (bs f).size := by rw [bs_size]; exact List.length_pos_iff.2 hf
      have h5 := get0m f hz
      have hd := drop1_bs f
      have e1 : YtlmdpamehhcblaaGreatDoorD.mag f = f.tail := by unfold YtlmdpamehhcblaaGreatDoorD.mag; rw [if_pos hmm]
      rw [e1] at HR
      rw [← hd] at HR
      rw [hmm] at h5
      clear hm hmm hf hd e1 lm hsz
      generalize bs f = S at *
      go_enter Tryz.func81, Tryz.ntmps81
      go_wp2_with fail
      refine (HR.out _).mono ?_
      rintro e w1 ⟨rfl, hg1⟩
      go_wp2_with fail
      go_ret2
      exact ⟨rfl, hg1⟩
    | false =>
      have e1 : YtlmdpamehhcblaaGreatDoorD.mag f = f := by unfold YtlmdpamehhcblaaGreatDoorD.mag; rw [hmm]; rfl
      rw [e1] at HR
      by_cases hf : f = []
      · subst hf
        have hz : (bs ([] : List UInt8)).size = 0 := bs_size _
        clear hm hmm e1 lm hsz
        go_enter Tryz.func81, Tryz.ntmps81
        go_wp2_with fail
        refine (HR.out _).mono ?_
        rintro e w1 ⟨rfl, hg1⟩
        go_wp2_with fail
        go_ret2
        exact ⟨rfl, hg1⟩
      · have hz : 0 < (bs f).size := by rw [bs_size]; exact List.length_pos_iff.2 hf
        have h5 := get0m f hz
        rw [hmm] at h5
        clear hm hmm hf e1 lm hsz
        generalize bs f = S at *
        go_enter Tryz.func81, Tryz.ntmps81
        go_wp2_with fail
        refine (HR.out _).mono ?_
        rintro e w1 ⟨rfl, hg1⟩
        go_wp2_with fail
        go_ret2
        exact ⟨rfl, hg1⟩
  | ok nd =>
    obtain ⟨n, d⟩ := nd
    obtain ⟨b1, b2, b3⟩ := YtlmdpamehhcblaaGreatDoorD.unum_bd hn
    have n13 : n ≤ 10000000000000 := by
      have e1 : (10 : Nat) ^ 13 = 10000000000000 := by decide
      omega
    have HO := fun w => over2_c w (usign (YtlmdpamehhcblaaGreatDoorD.minus f) n) d (by rw [YtlmdpamehhcblaaGreatDoorD.usign_abs]; omega) (by omega) b3
    rw [hn] at hr HR
    simp only [] at hr
    simp only [numV] at HR
    subst hr
    have HR := Lib.hid HR
    simp only [numR]
    unfold RetR at HO
    clear hn esz
    have b2' : (d : Int) ≤ 1000000 := by omega
    have n13' : (n : Int) ≤ 10000000000000 := by omega
    have n0 : 0 ≤ (n : Int) := by omega
    cases hmm : YtlmdpamehhcblaaGreatDoorD.minus f with
    | true =>
      have hf : f ≠ [] := by intro e; rw [e] at hmm; cases hmm
      have hz : 0 < (bs f).size := by rw [bs_size]; exact List.length_pos_iff.2 hf
      have h5 := get0m f hz
      have hd := drop1_bs f
      have e1 : YtlmdpamehhcblaaGreatDoorD.mag f = f.tail := by unfold YtlmdpamehhcblaaGreatDoorD.mag; rw [if_pos hmm]
      rw [e1] at HR
      rw [← hd] at HR
      rw [hmm] at h5 HO
      have e2 : usign true n = -(n : Int) := rfl
      rw [e2] at HO ⊢
      have HO := Lib.hid HO
      clear hm hmm hf hd e1 lm hsz b1 b2 b3 n13
      generalize bs (rtext (mkRat (-(n : Int)) d)) = z at *
      generalize (n : Int) = n at *
      generalize bs f = S at *
      go_enter Tryz.func81, Tryz.ntmps81
      go_wp2_with fail
      refine (HR.out _).mono ?_
      rintro e w1 ⟨rfl, hg1⟩
      go_wp2_with fail
      refine (HO.out _).mono ?_
      rintro e w2 ⟨rfl, hg2⟩
      go_wp2_with fail
      go_ret2
      exact ⟨rfl, hg1.trans hg2⟩
    | false =>
      have e1 : YtlmdpamehhcblaaGreatDoorD.mag f = f := by unfold YtlmdpamehhcblaaGreatDoorD.mag; rw [hmm]; rfl
      rw [e1] at HR
      rw [hmm] at HO
      have e2 : usign false n = (n : Int) := rfl
      rw [e2] at HO ⊢
      have HO := Lib.hid HO
      generalize bs (rtext (mkRat (n : Int) d)) = z at *
      by_cases hf : f = []
      · subst hf
        have hz : (bs ([] : List UInt8)).size = 0 := bs_size _
        clear hm hmm e1 lm hsz b1 b2 b3 n13
        go_enter Tryz.func81, Tryz.ntmps81
        go_wp2_with fail
        refine (HR.out _).mono ?_
        rintro e w1 ⟨rfl, hg1⟩
        go_wp2_with fail
        refine (HO.out _).mono ?_
        rintro e w2 ⟨rfl, hg2⟩
        go_wp2_with fail
        go_ret2
        exact ⟨rfl, hg1.trans hg2⟩
      · have hz : 0 < (bs f).size := by rw [bs_size]; exact List.length_pos_iff.2 hf
        have h5 := get0m f hz
        rw [hmm] at h5
        clear hm hmm hf e1 lm hsz b1 b2 b3 n13
        generalize bs f = S at *
        go_enter Tryz.func81, Tryz.ntmps81
        go_wp2_with fail
        refine (HR.out _).mono ?_
        rintro e w1 ⟨rfl, hg1⟩
        go_wp2_with fail
        refine (HO.out _).mono ?_
        rintro e w2 ⟨rfl, hg2⟩
        go_wp2_with fail
        go_ret2
        exact ⟨rfl, hg1.trans hg2⟩
end Go.Proofs.YtlmdpamehhcblaaGreatDoor
/- Contracts of the reference of units: Value, inRange, Exact, whole, Parse. UnitsReads. -/
namespace Go.Proofs.YtlmdpamehhcblaaGreatDoor
open Go.RowKit
open Go.Lib (itoa decDigits)
open YtlmdpamehhcblaaGreatDoorD (isDig val natural digs cutc unum rtext uexact uparse uint uidx uval uword usign usize ubeyond Q)

set_option maxHeartbeats 1000000 in
theorem Value13_c (w : World) (u : Nat) (hu : u < 5) : Calls Tryz.prog 83 #[.int .i64 u] w (RetR (uval u) w) := by
  unfold RetR
  rw [vtext u hu]
  have hu' : u = 0 ∨ u = 1 ∨ u = 2 ∨ u = 3 ∨ u = 4 := by omega
  clear hu
  rcases hu' with rfl | rfl | rfl | rfl | rfl
  all_goals (
    go_enter Tryz.func83, Tryz.ntmps83
    go_wp2_with fail
    go_ret
    exact ⟨rfl, (Gr.refl _).alloc _⟩)
theorem p12_c : P12 ((100000 : Int) : Rat) := P12.small (by decide) (by decide)
theorem p12_d : P12 ((-100000 : Int) : Rat) := P12.small (by decide) (by decide)
set_option maxHeartbeats 1000000 in
theorem inRange13_c (w : World) (x : Rat) (hx : P12 x) : Calls Tryz.prog 84 #[.string (bs (rtext x))] w fun e w' => e = .returned (.bool (!ubeyond x)) ∧ Gr w w' := by
  have W1 := Lib.hid (fun w => whole2_c w 100000 (by decide) (by decide))
  have W2 := Lib.hid (fun w => whole2_c w (-100000) (by decide) (by decide))
  have K1 := Lib.hid (fun w => order2_c w x _ hx p12_c)
  have K2 := Lib.hid (fun w => order2_c w x _ hx p12_d)
  have p1 := sgn_pos x ((100000 : Int) : Rat)
  have p2 := sgn_neg x ((-100000 : Int) : Rat)
  have e : ubeyond x = (decide (((100000 : Int) : Rat) < x) || decide (x < ((-100000 : Int) : Rat))) := rfl
  rw [e]
  clear e hx
  unfold RetR at W1 W2
  generalize ((100000 : Int) : Rat) = c1 at *
  generalize ((-100000 : Int) : Rat) = c2 at *
  generalize bs (rtext x) = s at *
  generalize (x.num * (c1.den : Int) - c1.num * (x.den : Int)).sign = g1 at *
  generalize (x.num * (c2.den : Int) - c2.num * (x.den : Int)).sign = g2 at *
  generalize bs (rtext c1) = s1 at *
  generalize bs (rtext c2) = s2 at *
  by_cases q1 : c1 < x
  · have h1 := p1.2 q1
    rw [decide_eq_true q1, Bool.true_or]
    clear p1 p2 q1
    go_enter Tryz.func84, Tryz.ntmps84
    go_wp2_with fail
    refine (W1.out _).mono ?_
    rintro e w1 ⟨rfl, hg1⟩
    go_wp2_with fail
    refine (K1.out _).mono ?_
    rintro e w2 ⟨rfl, hg2⟩
    go_wp2_with fail
    go_ret
    exact ⟨rfl, hg1.trans hg2⟩
  · have h1 : ¬ 0 < g1 := fun x => q1 (p1.1 x)
    rw [decide_eq_false q1, Bool.false_or]
    clear p1 q1
    by_cases q2 : x < c2
    · have h2 := p2.2 q2
      rw [decide_eq_true q2]
      clear p2 q2
      go_enter Tryz.func84, Tryz.ntmps84
      go_wp2_with fail
      refine (W1.out _).mono ?_
      rintro e w1 ⟨rfl, hg1⟩
      go_wp2_with fail
      refine (K1.out _).mono ?_
      rintro e w2 ⟨rfl, hg2⟩
      have G2 := hg1.trans hg2
      clear hg1 hg2
      go_wp2_with fail
      refine (W2.out _).mono ?_
      rintro e w3 ⟨rfl, hg3⟩
      have G3 := G2.trans hg3
      clear G2 hg3
      go_wp2_with fail
      refine (K2.out _).mono ?_
      rintro e w4 ⟨rfl, hg4⟩
      go_wp2_with fail
      go_ret
      exact ⟨by first | rfl | (simp; omega), G3.trans hg4⟩
    · have h2 : ¬ g2 < 0 := fun x => q2 (p2.1 x)
      rw [decide_eq_false q2]
      clear p2 q2
      go_enter Tryz.func84, Tryz.ntmps84
      go_wp2_with fail
      refine (W1.out _).mono ?_
      rintro e w1 ⟨rfl, hg1⟩
      go_wp2_with fail
      refine (K1.out _).mono ?_
      rintro e w2 ⟨rfl, hg2⟩
      have G2 := hg1.trans hg2
      clear hg1 hg2
      go_wp2_with fail
      refine (W2.out _).mono ?_
      rintro e w3 ⟨rfl, hg3⟩
      have G3 := G2.trans hg3
      clear G2 hg3
      go_wp2_with fail
      refine (K2.out _).mono ?_
      rintro e w4 ⟨rfl, hg4⟩
      go_wp2_with fail
      go_ret
      exact ⟨by first | rfl | (simp; omega), G3.trans hg4⟩
/-- What the reference of Exact reckons: number, unit, product, range. -/
theorem uexact_via (s : List UInt8) : uexact s = if 40 < s.length then .error 17 else match snumR (cutc 32 s).1 with
    | .error e => .error e
    | .ok q => match (if (cutc 32 s).2.2 then uidx (cutc 32 s).2.1 else none) with
      | none => .error 20
      | some u => if ubeyond (q * uval u) then .error 2 else .ok (q * uval u) := by
  unfold YtlmdpamehhcblaaGreatDoorD.uexact snumR
  split
  · rfl
  · cases unum (usize (cutc 32 s).1) with
    | error e => rfl
    | ok nd => obtain ⟨n, d⟩ := nd; rfl
theorem snum_parts {f : List UInt8} {q : Rat} (h : snumR f = .ok q) : q.num.natAbs < 10 ^ 13 ∧ q.den ≤ 1000000 := by
  unfold snumR at h
  split at h
  · cases h
  · rename_i n d hn
    injection h with h
    subst h
    obtain ⟨b1, b2, b3⟩ := YtlmdpamehhcblaaGreatDoorD.unum_bd hn
    have p := YtlmdpamehhcblaaGreatDoorD.mkRat_parts (usign (Lib.hasPrefix f [45]) n) d b3
    rw [YtlmdpamehhcblaaGreatDoorD.usign_abs] at p
    omega
theorem snum_err {f : List UInt8} {e : Int} (h : snumR f = .error e) : e ≠ 0 ∧ 0 ≤ e ∧ e ≤ 100 := by
  unfold snumR at h
  split at h
  · rename_i hn
    injection h with h
    subst h
    exact unum_err hn
  · cases h
set_option maxHeartbeats 4000000 in
set_option maxRecDepth 20000 in
theorem Exact13_c (w : World) (s : List UInt8) (hl : s.length ≤ 3000) : Calls Tryz.prog 22 #[.string (bs s)] w fun e w' => e = .returned (exactV (uexact s)) ∧ Gr w w' := by
  have hsz := bs_size s
  generalize hr : uexact s = r
  rw [uexact_via] at hr
  by_cases h40 : 40 < s.length
  · rw [if_pos h40] at hr
    subst hr
    go_enter Tryz.func22, Tryz.ntmps22
    go_wp2_with fail
    go_ret2
    exact ⟨rfl, Gr.refl _⟩
  · rw [if_neg h40] at hr
    have HC := fun w => cut13_c w s 32 32 rfl hl
    unfold RetCut at HC
    obtain ⟨lf, lw⟩ := cutc_le 32 s
    generalize (cutc 32 s).1 = f at *
    generalize (cutc 32 s).2.1 = word at *
    generalize (cutc 32 s).2.2 = blank at *
    have HC := Lib.hid HC
    have HN := fun w => Number13_c w f (by omega)
    have HU := fun w => Unit13_c w word
    unfold RetUnit at HU
    clear lf lw hl
    cases hn : snumR f with
    | error e =>
      obtain ⟨z0, z1, z2⟩ := snum_err hn
      rw [hn] at hr HN
      simp only [] at hr
      subst hr
      simp only [numR] at HN
      have HN := Lib.hid HN
      clear hn HU
      go_enter Tryz.func22, Tryz.ntmps22
      go_wp2_with fail
      refine HC.out _ |>.mono ?_
      rintro e1 w1 ⟨rfl, hg1⟩
      go_wp2_with fail
      refine (HN.out _).mono ?_
      rintro e1 w3 ⟨rfl, hg3⟩
      go_wp2_with fail
      go_ret2
      exact ⟨rfl, hg1.trans hg3⟩
    | ok q =>
      obtain ⟨q1, q2⟩ := snum_parts hn
      rw [hn] at hr HN
      simp only [] at hr
      simp only [numR] at HN
      have HN := Lib.hid HN
      clear hn
      cases hu : uidx word with
      | none =>
        have hr2 : r = .error 20 := by rw [← hr, hu]; cases blank <;> rfl
        rw [hu] at HU
        simp only [unitV] at HU
        have HU := Lib.hid HU
        rw [hr2]
        clear hr hr2 hu q1 q2
        generalize bs (rtext q) = qt at *
        go_enter Tryz.func22, Tryz.ntmps22
        go_wp2_with fail
        refine HC.out _ |>.mono ?_
        rintro e1 w1 ⟨rfl, hg1⟩
        go_wp2_with fail
        refine (HN.out _).mono ?_
        rintro e1 w3 ⟨rfl, hg3⟩
        go_wp2_with fail
        refine (HU.out _).mono ?_
        rintro e1 w4 ⟨rfl, hg4⟩
        go_wp2_with fail
        go_ret2
        exact ⟨rfl, (hg1.trans hg3).trans hg4⟩
      | some u =>
        have hu5 := (YtlmdpamehhcblaaGreatDoorD.uidx_lt hu).1
        rw [hu] at hr HU
        simp only [unitV] at HU
        have HU := Lib.hid HU
        clear hu
        cases blank with
        | false =>
          simp only [Bool.false_eq_true, if_false] at hr
          subst hr
          generalize bs (rtext q) = qt at *
          clear q1 q2
          go_enter Tryz.func22, Tryz.ntmps22
          go_wp2_with fail
          refine HC.out _ |>.mono ?_
          rintro e1 w1 ⟨rfl, hg1⟩
          go_wp2_with fail
          refine (HN.out _).mono ?_
          rintro e1 w3 ⟨rfl, hg3⟩
          go_wp2_with fail
          refine (HU.out _).mono ?_
          rintro e1 w4 ⟨rfl, hg4⟩
          go_wp2_with fail
          go_ret2
          exact ⟨rfl, (hg1.trans hg3).trans hg4⟩
        | true =>
          simp only [if_true] at hr
          obtain ⟨v1, v2, v3⟩ := YtlmdpamehhcblaaGreatDoorD.uval_parts u
          have e13 : (10 : Nat) ^ 13 = 10000000000000 := by decide
          have m1 := Nat.mul_le_mul (Nat.le_of_lt q1) v1
          have m2 := Nat.mul_le_mul q2 v2
          rw [e13] at m1
          have hp : (q.num * (uval u).num).natAbs < 1000000000000000000 := by rw [Int.natAbs_mul]; omega
          have hd : q.den * (uval u).den < 1000000000000000000 := by omega
          have pq : P12 q := P12.small (by omega) (by omega)
          have pu : P12 (uval u) := P12.small (by omega) (by omega)
          have px : P12 (q * uval u) := by
            have k := YtlmdpamehhcblaaGreatDoorD.mul_parts q (uval u)
            rw [← Int.natAbs_mul] at k
            exact P12.small (by omega) (by omega)
          have HV := Lib.hid (fun w => Value13_c w u hu5)
          have HT := Lib.hid (fun w => times2_c w q (uval u) pq pu hp hd)
          have HI := fun w => inRange13_c w (q * uval u) px
          unfold RetR at HV HT
          clear hp hd m1 m2 pq pu px v1 v2 v3 q1 q2 e13
          generalize q * uval u = x at *
          generalize bs (rtext q) = qt at *
          generalize bs (rtext (uval u)) = vt at *
          have hu1 : (u : Int) < 5 := by omega
          cases hby : ubeyond x with
          | true =>
            rw [hby] at hr HI
            simp only [if_true] at hr
            subst hr
            have HI := Lib.hid HI
            clear hby
            generalize bs (rtext x) = xt at *
            go_enter Tryz.func22, Tryz.ntmps22
            go_wp2_with fail
            refine HC.out _ |>.mono ?_
            rintro e1 w1 ⟨rfl, hg1⟩
            go_wp2_with fail
            refine (HN.out _).mono ?_
            rintro e1 w3 ⟨rfl, hg3⟩
            have G3 := hg1.trans hg3
            clear hg1 hg3
            go_wp2_with fail
            refine (HU.out _).mono ?_
            rintro e1 w4 ⟨rfl, hg4⟩
            have G4 := G3.trans hg4
            clear G3 hg4
            go_wp2_with fail
            refine (HV.out _).mono ?_
            rintro e1 w5 ⟨rfl, hg5⟩
            have G5 := G4.trans hg5
            clear G4 hg5
            go_wp2_with fail
            refine (HT.out _).mono ?_
            rintro e1 w6 ⟨rfl, hg6⟩
            have G6 := G5.trans hg6
            clear G5 hg6
            go_wp2_with fail
            refine (HI.out _).mono ?_
            rintro e1 w7 ⟨rfl, hg7⟩
            go_wp2_with fail
            go_ret2
            exact ⟨rfl, G6.trans hg7⟩
          | false =>
            rw [hby] at hr HI
            simp only [Bool.false_eq_true, if_false] at hr
            subst hr
            have HI := Lib.hid HI
            clear hby
            simp only [exactV]
            generalize bs (rtext x) = xt at *
            go_enter Tryz.func22, Tryz.ntmps22
            go_wp2_with fail
            refine HC.out _ |>.mono ?_
            rintro e1 w1 ⟨rfl, hg1⟩
            go_wp2_with fail
            refine (HN.out _).mono ?_
            rintro e1 w3 ⟨rfl, hg3⟩
            have G3 := hg1.trans hg3
            clear hg1 hg3
            go_wp2_with fail
            refine (HU.out _).mono ?_
            rintro e1 w4 ⟨rfl, hg4⟩
            have G4 := G3.trans hg4
            clear G3 hg4
            go_wp2_with fail
            refine (HV.out _).mono ?_
            rintro e1 w5 ⟨rfl, hg5⟩
            have G5 := G4.trans hg5
            clear G4 hg5
            go_wp2_with fail
            refine (HT.out _).mono ?_
            rintro e1 w6 ⟨rfl, hg6⟩
            have G6 := G5.trans hg6
            clear G5 hg6
            go_wp2_with fail
            refine (HI.out _).mono ?_
            rintro e1 w7 ⟨rfl, hg7⟩
            go_wp2_with fail
            go_ret2
            exact ⟨rfl, G6.trans hg7⟩
theorem is1_itoa (d : Nat) : ((bs (itoa (d : Int))).toList == [49]) = decide (d = 1) := by rw [YtlmdpamehhcblaaGreatDoorD.itoa_nat]; exact is1_dec d
set_option maxHeartbeats 1000000 in
theorem whole13_c (w : World) (x : Rat) (hx : x.den = 1 → x.num.natAbs < 1000000000000000000) (hp : P12 x) : Calls Tryz.prog 86 #[.string (bs (rtext x))] w fun e w' => e = .returned (parseV (uint x)) ∧ Gr w w' := by
  have HS := Lib.hid (fun w => split2_c w x hp.l)
  unfold RetSplit at HS
  have z := is1_itoa x.den
  by_cases hd : x.den = 1
  · have hr : uint x = .ok x.num := by unfold YtlmdpamehhcblaaGreatDoorD.uint; rw [if_pos hd]
    have HM := Lib.hid (fun w => small1_c w x.num (hx hd))
    rw [decide_eq_true hd] at z
    rw [hr]
    simp only [parseV]
    clear hx hp hd hr
    generalize bs (itoa (x.den : Int)) = dt at *
    generalize bs (itoa x.num) = nt at *
    generalize bs (rtext x) = xt at *
    generalize x.num = n at *
    go_enter Tryz.func86, Tryz.ntmps86
    go_wp2_with fail
    refine (HS.out _).mono ?_
    rintro e w1 ⟨rfl, hg1⟩
    go_wp2_with fail
    refine (HM.out _).mono ?_
    rintro e w2 ⟨rfl, hg2⟩
    go_wp2_with fail
    go_ret2
    exact ⟨rfl, hg1.trans hg2⟩
  · have hr : uint x = .error 14 := by unfold YtlmdpamehhcblaaGreatDoorD.uint; rw [if_neg hd]
    rw [decide_eq_false hd] at z
    rw [hr]
    simp only [parseV]
    clear hx hp hd hr
    generalize bs (itoa (x.den : Int)) = dt at *
    generalize bs (itoa x.num) = nt at *
    generalize bs (rtext x) = xt at *
    go_enter Tryz.func86, Tryz.ntmps86
    go_wp2_with fail
    refine (HS.out _).mono ?_
    rintro e w1 ⟨rfl, hg1⟩
    go_wp2_with fail
    go_ret2
    exact ⟨rfl, hg1⟩
set_option maxHeartbeats 1000000 in
theorem Parse13_c (w : World) (s : List UInt8) (hl : s.length ≤ 3000) : Calls Tryz.prog 24 #[.string (bs s)] w fun e w' => e = .returned (parseV (uparse s)) ∧ Gr w w' := by
  have HX := fun w => Exact13_c w s hl
  generalize hr : uparse s = r
  unfold YtlmdpamehhcblaaGreatDoorD.uparse at hr
  cases hx : uexact s with
  | error c =>
    obtain ⟨c0, c1, c2⟩ := uexact_err hx
    rw [hx] at hr HX
    simp only [] at hr
    simp only [exactV] at HX
    subst hr
    simp only [parseV]
    have H := Lib.hid HX
    clear HX hx
    go_enter Tryz.func24, Tryz.ntmps24
    go_wp2_with fail
    refine (H.out _).mono ?_
    rintro e w1 ⟨rfl, hg⟩
    go_wp2_with fail
    go_ret2
    exact ⟨rfl, hg⟩
  | ok x =>
    obtain ⟨x1, x2, _⟩ := YtlmdpamehhcblaaGreatDoorD.uexact_parts hx
    have e18 : (10 : Nat) ^ 18 = 1000000000000000000 := by decide
    have e7 : (10 : Nat) ^ 7 = 10000000 := by decide
    have hp : P12 x := P12.small (by omega) (by omega)
    have HI := fun w => whole13_c w x (fun _ => by omega) hp
    rw [hx] at hr HX
    simp only [] at hr
    simp only [exactV] at HX
    subst hr
    have H := Lib.hid HX
    clear HX hx hp x1 x2 e18 e7
    obtain ⟨va, vb, hv⟩ := parseV_two (uint x)
    rw [hv] at HI
    rw [hv]
    have HI := Lib.hid HI
    clear hv
    generalize bs (rtext x) = xt at *
    go_enter Tryz.func24, Tryz.ntmps24
    go_wp2_with fail
    refine (H.out _).mono ?_
    rintro e w1 ⟨rfl, hg⟩
    go_wp2_with fail
    refine (HI.out _).mono ?_
    rintro e w2 ⟨rfl, hg2⟩
    go_wp2_with fail
    go_ret2
    exact ⟨rfl, hg.trans hg2⟩
theorem exactV_two (r : Except Int Rat) : ∃ (x : ByteArray) (b : Int), exactV r = .tuple #[.string x, .int .i64 b] := by
  cases r with
  | ok q => exact ⟨_, 0, rfl⟩
  | error e => exact ⟨_, e, rfl⟩
set_option maxHeartbeats 4000000 in
theorem Reads_c (w : World) (he : Env w) (s : List UInt8) : Calls Tryz.prog 3 #[.string (bs s)] w fun e w' => e = .returned (.bool true) ∧ Gr w w' := by
  have HA := Lib.hid (fun w he => awake13_c w he)
  have HE := Lib.hid he
  have hsz := bs_size s
  by_cases h : 100 < s.length
  · rw [← hsz] at h
    clear he hsz
    generalize bs s = S at *
    go_enter Tryz.func3, Tryz.ntmps3
    go_wp2_with fail
    refine (HA.out _ HE.out).mono ?_
    rintro e w1 ⟨rfl, hg⟩
    go_wp2_with fail
    go_ret
    exact ⟨rfl, hg⟩
  · have X1 := fun w he => Exact_c w he s (by omega)
    have X2 := fun w => Exact13_c w s (by omega)
    have P1 := fun w he => Parse_c w he s (by omega)
    have P2 := fun w => Parse13_c w s (by omega)
    obtain ⟨a, b, hab⟩ := exactV_two (uexact s)
    obtain ⟨x, c, hxc⟩ := parseV_two (uparse s)
    rw [hab] at X1 X2
    rw [hxc] at P1 P2
    have X1 := Lib.hid X1; have X2 := Lib.hid X2; have P1 := Lib.hid P1; have P2 := Lib.hid P2
    rw [← hsz] at h
    clear he hab hxc hsz
    generalize bs s = S at *
    go_enter Tryz.func3, Tryz.ntmps3
    go_wp2_with fail
    refine (X1.out _ HE.out).mono ?_
    rintro e w1 ⟨rfl, hg1⟩
    go_wp2_with fail
    refine (X2.out _).mono ?_
    rintro e w2 ⟨rfl, hg2⟩
    have G2 := hg1.trans hg2
    clear hg1 hg2
    go_wp2_with fail
    refine (P1.out _ (HE.out.gr G2)).mono ?_
    rintro e w3 ⟨rfl, hg3⟩
    have G3 := G2.trans hg3
    clear G2 hg3
    go_wp2_with fail
    refine (P2.out _).mono ?_
    rintro e w4 ⟨rfl, hg4⟩
    have G4 := G3.trans hg4
    clear G3 hg4
    go_wp2_with fail
    refine (HA.out _ (HE.out.gr G4)).mono ?_
    rintro e w5 ⟨rfl, hg5⟩
    go_wp2_with fail
    go_ret
    exact ⟨by simp, G4.trans hg5⟩
end Go.Proofs.YtlmdpamehhcblaaGreatDoor
