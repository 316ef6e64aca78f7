import Derived.Test.YtlmdpamehhcblaaGreatDoorRf
/- Contracts of package whole: sum, Add, Total, Neg. -/
namespace Go.Proofs.YtlmdpamehhcblaaGreatDoor
open Go.RowKit
open Go.Lib (itoa decDigits)
open YtlmdpamehhcblaaGreatDoorV (wd nw B upd B_eq)

/-- The sum of a list. -/
def isum (l : List Int) : Int := l.foldl (· + ·) 0
theorem isum_snoc (l : List Int) (j : Nat) (h : j < l.length) : isum (l.take (j + 1)) = isum (l.take j) + l.getD j 0 := by
  unfold isum
  rw [List.take_add_one, List.getElem?_eq_getElem h, Option.toList_some, List.foldl_append, List.getD_eq_getElem?_getD, List.getElem?_eq_getElem h]
  rfl
theorem lim_two {u v : Nat} (hu : u < YtlmdpamehhcblaaGreatDoorD.Lim) (hv : v < YtlmdpamehhcblaaGreatDoorD.Lim) : u + v < B ^ 232 := by
  have h1 := nw_le_of hu
  have h2 := nw_le_of hv
  have k1 := (YtlmdpamehhcblaaGreatDoorV.nw_le_iff _ _).1 h1
  have k2 := (YtlmdpamehhcblaaGreatDoorV.nw_le_iff _ _).1 h2
  have key : ∀ k m, m = k + 118 → 2 * B ^ k ≤ B ^ m := by
    intro k m e
    subst e
    rw [Nat.pow_add, Nat.mul_comm]
    apply Nat.mul_le_mul_left
    have : 2 ≤ B ^ 1 := by rw [Nat.pow_one, B_eq]; decide
    exact Nat.le_trans this (Nat.pow_le_pow_right YtlmdpamehhcblaaGreatDoorV.B_pos (by decide))
  have := key 114 232 rfl
  omega
/-- What whole.sum's loop keeps. -/
def SumRel (g : Nat) (s : Int) (w wr : World) : Prop := (∃ l v, IsW wr g l v ∧ wint l v = s) ∧ Gr w wr
set_option maxHeartbeats 2000000 in
set_option maxRecDepth 100000 in
theorem sum_c (w : World) (he : Env w) (h c : Nat) (l : List Int) (hl : IntsAt w h 0 l) (hn : l.length ≤ 9223372036854775807)
    (hb : ∀ n ∈ l, n.natAbs < YtlmdpamehhcblaaGreatDoorD.Lim) (hp : ∀ j, (isum (l.take j)).natAbs < YtlmdpamehhcblaaGreatDoorD.Lim) :
    Calls Tryz.prog 112 #[.slice (some ⟨h, 0, none⟩) l.length c] w (RetI (isum l) w) := by
  have HL := Lib.hid hl
  have HB := Lib.hid hb
  have HP := Lib.hid hp
  have HE := Lib.hid he
  clear hl hb hp he
  unfold RetI
  go_enter Tryz.func112, Tryz.ntmps112
  go_wp2_with fail
  go_loopg [11] l.length (fun k i wr => ∃ j : Nat, k + j = l.length ∧ i = .int .i64 j ∧ Aside (SumRel w.heap.size (isum (l.take j)) w wr))
  case atStart => exact ⟨0, rfl, rfl, ⟨false, 0, IsW.zero (WB.new' w), rfl⟩, (Gr.refl w).alloc _⟩
  case round =>
    obtain ⟨j, hj, rfl, A⟩ := hrel
    have HJ := Lib.hid hj; clear hj
    obtain ⟨⟨l0, v0, hw0, e0⟩, G⟩ := A.out
    by_cases hlt : j < l.length
    · have hcc := (HL.out.gr G) j hlt
      rw [Nat.zero_add] at hcc
      have hmem : l.getD j 0 ∈ l := by rw [List.getD_eq_getElem?_getD, List.getElem?_eq_getElem hlt]; exact List.getElem_mem hlt
      have hsn := isum_snoc l j hlt
      have hR := Lib.hid (fun w1 => read_c w1 (l.getD j 0) (HB.out _ hmem))
      have hv0 : v0 < YtlmdpamehhcblaaGreatDoorD.Lim := by have := HP.out j; rw [← e0, wint_abs] at this; exact this
      have hP := Lib.hid (fun (w1 : World) g hx hy hne => plus_c w1 w.heap.size g l0 (decide (l.getD j 0 < 0)) v0 (l.getD j 0).natAbs hx hy hne (lim_two hv0 (HB.out _ hmem)))
      have ew : wint (decide (l.getD j 0 < 0)) (l.getD j 0).natAbs = l.getD j 0 := by
        unfold wint
        rcases (show l.getD j 0 < 0 ∨ 0 ≤ l.getD j 0 by omega) with hh | hh
        · rw [decide_eq_true hh]; simp only [if_true]; omega
        · rw [decide_eq_false (by omega)]; simp only [Bool.false_eq_true, if_false]; omega
      rw [ew, e0, ← hsn] at hP
      clear hmem hsn ew hv0 e0
      generalize decide (l.getD j 0 < 0) = ln at *
      generalize (l.getD j 0).natAbs = vn at *
      generalize bs (itoa (l.getD j 0)) = s at *
      have HW0 := Lib.hid hw0
      have hgs : w.heap.size < wr.heap.size := hw0.1.lt
      have HG := Lib.hid G
      clear hw0 G A
      go_wp2_with fail
      refine (hR.out _).mono ?_
      rintro e w1 ⟨g, rfl, hg, hw, hg1⟩
      go_wp2_with fail
      refine (hP.out _ _ (HW0.out.grow hg1) hw (by omega)).mono ?_
      rintro e w2 ⟨rfl, hex, hf⟩
      have A2 : Aside (SumRel w.heap.size (isum (l.take (j + 1))) w w2) := ⟨hex, (HG.out.trans hg1).fr hf (Nat.le_refl _)⟩
      clear hg hw hg1 hex hf hcc HW0 HG
      go_wp2_with fail
      go_roundg (gk - 1)
      case measure => have := HJ.out; omega
      case rel => exact ⟨j + 1, by have := HJ.out; omega, by go_num, A2.out⟩
    · have e1 : isum (l.take j) = isum l := by rw [List.take_of_length_le (by omega)]
      rw [e1] at e0
      have hv0 : v0 < YtlmdpamehhcblaaGreatDoorD.Lim := by have := HP.out j; rw [e1, ← e0, wint_abs] at this; exact this
      have hli := Lib.hid (limited_c wr (HE.out.gr G) w.heap.size l0 v0 hw0 hv0)
      unfold RetI at hli
      rw [e0] at hli
      go_wp2_with fail
      refine hli.out.mono ?_
      rintro e w1 ⟨rfl, hg1⟩
      go_wp2_with fail
      go_ret2
      exact ⟨rfl, G.trans hg1⟩
theorem sum2_c (w : World) (he : Env w) (g : Nat) (m n : Int) (h0 : w.cell? ⟨g, 0, none⟩ = some (.string (bs (itoa m)))) (h1 : w.cell? ⟨g, 1, none⟩ = some (.string (bs (itoa n))))
    (hm : m.natAbs < YtlmdpamehhcblaaGreatDoorD.Lim) (hn : n.natAbs < YtlmdpamehhcblaaGreatDoorD.Lim) (hmn : (m + n).natAbs < YtlmdpamehhcblaaGreatDoorD.Lim) : Calls Tryz.prog 112 #[.slice (some ⟨g, 0, none⟩) 2 2] w (RetI (m + n) w) := by
  have := sum_c w he g 2 [m, n] (fun j hj => by
    match j, hj with
    | 0, _ => exact h0
    | 1, _ => exact h1) (by simp) (fun x hx => by
    simp only [List.mem_cons, List.not_mem_nil, or_false] at hx
    rcases hx with rfl | rfl
    · exact hm
    · exact hn) (fun j => by
    match j with
    | 0 => have := YtlmdpamehhcblaaGreatDoorD.lim_big; show 0 < _; omega
    | 1 => unfold isum; simpa using hm
    | j + 2 => rw [show isum (List.take (j + 2) [m, n]) = m + n by unfold isum; simp]; exact hmn)
  rw [show isum [m, n] = m + n by unfold isum; simp] at this
  exact this
set_option maxHeartbeats 2000000 in
theorem Add_c (w : World) (he : Env w) (m n : Int) (hm : m.natAbs < YtlmdpamehhcblaaGreatDoorD.Lim) (hn : n.natAbs < YtlmdpamehhcblaaGreatDoorD.Lim) (hmn : (m + n).natAbs < YtlmdpamehhcblaaGreatDoorD.Lim) :
    Calls Tryz.prog 222 #[.string (bs (itoa m)), .string (bs (itoa n))] w (RetI (m + n) w) := by
  have HA := Lib.hid (fun w g h0 h1 => all2_c w g m n h0 h1 hm hn)
  have lm := itoa_len_le hm
  have ln := itoa_len_le hn
  by_cases hs : isShort m = true ∧ isShort n = true
  · have HS := Lib.hid (fun w => small_yes w m n hs.1 hs.2)
    have b1 := short_bd hs.1
    have b2 := short_bd hs.2
    have hb1 : -9000000000000000000 ≤ m + n := by omega
    have hb2 : m + n ≤ 9000000000000000000 := by omega
    have HQ := Lib.hid (fun w he => result_c w he (m + n) (by omega) (by omega))
    clear hm hn hmn lm ln hs b1 b2
    unfold RetI at *
    generalize bs (itoa (m + n)) = r at *
    generalize bs (itoa m) = s at *
    generalize bs (itoa n) = t at *
    go_enter Tryz.func222, Tryz.ntmps222
    go_wp2_with fail
    refine (HA.out _ _ (new2 w _ _ _).1 (new2 w _ _ _).2).mono ?_
    rintro e w1 ⟨rfl, hg1⟩
    have HG1 := Lib.hid (((Gr.refl w).alloc _).trans hg1)
    clear hg1
    go_wp2_with fail
    refine (HS.out _).mono ?_
    rintro e w2 ⟨rfl, hg2⟩
    have HG2 := Lib.hid (HG1.out.trans hg2)
    clear hg2
    go_wp2_with fail
    refine (HQ.out _ (he.gr HG2.out)).mono ?_
    rintro e w3 ⟨rfl, hg3⟩
    go_wp2_with fail
    go_ret2
    exact ⟨rfl, HG2.out.trans hg3⟩
  · have hs2 : isShort m = false ∨ isShort n = false := by
      cases ha : isShort m <;> cases hb : isShort n <;> simp_all
    have HS := Lib.hid (fun w => small_no w m n hs2 (by omega) (by omega))
    have HQ := Lib.hid (fun w he g h0 h1 => sum2_c w he g m n h0 h1 hm hn hmn)
    clear hm hn hmn lm ln hs hs2
    unfold RetI at *
    generalize bs (itoa (m + n)) = r at *
    generalize bs (itoa m) = s at *
    generalize bs (itoa n) = t at *
    go_enter Tryz.func222, Tryz.ntmps222
    go_wp2_with fail
    refine (HA.out _ _ (new2 w _ _ _).1 (new2 w _ _ _).2).mono ?_
    rintro e w1 ⟨rfl, hg1⟩
    have HG1 := Lib.hid (((Gr.refl w).alloc _).trans hg1)
    clear hg1
    go_wp2_with fail
    refine (HS.out _).mono ?_
    rintro e w2 ⟨rfl, hg2⟩
    have HG2 := Lib.hid (HG1.out.trans hg2)
    clear hg2
    go_wp2_with fail
    refine (HQ.out _ (he.gr (HG2.out.alloc _)) _ (new2 w2 _ _ _).1 (new2 w2 _ _ _).2).mono ?_
    rintro e w3 ⟨rfl, hg3⟩
    go_wp2_with fail
    go_ret2
    exact ⟨rfl, (HG2.out.alloc _).trans hg3⟩
theorem itoa_opp_pos {n : Int} (h : 0 < n) : itoa (-n) = 45 :: itoa n := by
  obtain ⟨k, rfl⟩ := Int.eq_ofNat_of_zero_le (Int.le_of_lt h)
  rw [YtlmdpamehhcblaaGreatDoorD.itoa_neg (by omega), YtlmdpamehhcblaaGreatDoorD.itoa_nat]
theorem itoa_opp_neg {n : Int} (h : n < 0) : itoa (-n) = (itoa n).drop 1 := by
  have := itoa_opp_pos (n := -n) (by omega)
  rw [Int.neg_neg] at this
  rw [this]; rfl
set_option maxHeartbeats 1000000 in
theorem opposite_c (w : World) (n : Int) (hn : n.natAbs < YtlmdpamehhcblaaGreatDoorD.Lim) : Calls Tryz.prog 243 #[.string (bs (itoa n))] w fun e w' => e = .returned (.string (bs (itoa (-n)))) ∧ w' = w := by
  have HS := Lib.hid (sign_c n w)
  have hl := itoa_len_le hn
  have hp := itoa_pos n
  have hsz := bs_size (itoa n)
  rcases Int.lt_trichotomy n 0 with h | h | h
  · have e : bs (itoa (-n)) = (bs (itoa n)).extract 1 (bs (itoa n)).size := by
      rw [bs_extract, itoa_opp_neg h, bs_size, List.take_of_length_le (by simp)]
    rw [e]
    rw [Int.sign_eq_neg_one_of_neg h] at HS
    clear e h hsz
    generalize bs (itoa n) = s at *
    go_enter Tryz.func243, Tryz.ntmps243
    go_wp2_with fail
    refine HS.out.mono ?_
    rintro e w1 ⟨rfl, rfl⟩
    go_wp2_with fail
    go_ret
    exact ⟨rfl, rfl⟩
  · subst h
    rw [show (0 : Int).sign = 0 from rfl] at HS
    rw [show (-0 : Int) = 0 from rfl]
    generalize bs (itoa 0) = s at *
    go_enter Tryz.func243, Tryz.ntmps243
    go_wp2_with fail
    refine HS.out.mono ?_
    rintro e w1 ⟨rfl, rfl⟩
    go_wp2_with fail
    go_ret
    exact ⟨rfl, rfl⟩
  · have e : bs (itoa (-n)) = bs [45] ++ bs (itoa n) := by rw [itoa_opp_pos h, bs_append]; rfl
    rw [e]
    rw [Int.sign_eq_one_of_pos h] at HS
    clear e h
    generalize bs (itoa n) = s at *
    have hlen : s.size ≤ 2000 := by omega
    go_enter Tryz.func243, Tryz.ntmps243
    go_wp2_with fail
    refine HS.out.mono ?_
    rintro e w1 ⟨rfl, rfl⟩
    go_wp2_with fail
    go_ret
    exact ⟨rfl, rfl⟩
set_option maxHeartbeats 1000000 in
theorem Neg_c (w : World) (n : Int) (hn : n.natAbs < YtlmdpamehhcblaaGreatDoorD.Lim) : Calls Tryz.prog 215 #[.string (bs (itoa n))] w (RetI (-n) w) := by
  have H1 := Lib.hid (fun w => Check_int w n hn)
  have H2 := Lib.hid (fun w => opposite_c w n hn)
  clear hn
  unfold RetI
  unfold RetE at H1
  generalize bs (itoa n) = s at *
  generalize bs (itoa (-n)) = t at *
  go_enter Tryz.func215, Tryz.ntmps215
  go_wp2_with fail
  refine (H1.out _).mono ?_
  rintro e w1 ⟨rfl, hg⟩
  go_wp2_with fail
  refine (H2.out _).mono ?_
  rintro e w2 ⟨rfl, rfl⟩
  go_wp2_with fail
  go_ret2
  exact ⟨rfl, hg⟩
end Go.Proofs.YtlmdpamehhcblaaGreatDoor
