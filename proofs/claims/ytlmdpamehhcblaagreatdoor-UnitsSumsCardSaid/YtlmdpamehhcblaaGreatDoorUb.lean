import Derived.Test.YtlmdpamehhcblaaGreatDoorUa
/- Contracts of package units: number. -/
namespace Go.Proofs.YtlmdpamehhcblaaGreatDoor
open Go.RowKit
open Go.Lib (itoa decDigits)
open YtlmdpamehhcblaaGreatDoorD (rtext natural digs uword uval uidx isDig unum val)

set_option maxHeartbeats 1000000 in
theorem value_c (w : World) (l : List UInt8) (h0 : l ≠ []) (h : l.all isDig = true) (hl : l.length ≤ 18) :
    Calls Tryz.prog 161 #[.string (bs l)] w fun e w' => e = .returned (.int .i64 (val l : Int)) ∧ Gr w w' := by
  have H := Lib.hid (Atoi_ok w l (by omega) _ (YtlmdpamehhcblaaGreatDoorD.atoi_digits h0 h hl))
  clear h0 h hl
  generalize bs l = s at *
  generalize (val l : Int) = v at *
  go_enter Tryz.func161, Tryz.ntmps161
  go_wp2_with fail
  refine H.out.mono ?_
  rintro e w1 ⟨rfl, hg⟩
  go_wp2_with fail
  go_ret
  exact ⟨rfl, hg⟩
/-- What units.number answers. -/
def numV : Except Int (Nat × Nat) → Value
  | .ok (n, d) => .tuple #[.int .i64 (n : Int), .int .i64 (d : Int), .int .i64 0]
  | .error e => .tuple #[.int .i64 0, .int .i64 0, .int .i64 e]
theorem cutc_le (c : UInt8) (l : List UInt8) : (YtlmdpamehhcblaaGreatDoorD.cutc c l).1.length ≤ l.length ∧ (YtlmdpamehhcblaaGreatDoorD.cutc c l).2.1.length ≤ l.length := by
  rcases YtlmdpamehhcblaaGreatDoorD.cutc_spec c l with ⟨hm, ht, he, hn⟩ | ⟨hm, he⟩
  · have hl := congrArg List.length he
    rw [List.length_append, List.length_cons] at hl
    omega
  · rw [he]; simp
theorem repeat0 (k : Nat) : Lib.repeatL [48] k = List.replicate k 48 := by
  induction k with
  | zero => rfl
  | succ k ih => show [48] ++ Lib.repeatL [48] k = _; rw [ih]; rfl
theorem val_zeros (k : Nat) : val (List.replicate k 48) = 0 := by
  induction k with
  | zero => exact YtlmdpamehhcblaaGreatDoorD.val_nil
  | succ k ih => rw [List.replicate_succ, YtlmdpamehhcblaaGreatDoorD.val_cons, ih]; simp
theorem val_one0 (k : Nat) : val (49 :: List.replicate k 48) = 10 ^ k := by
  rw [YtlmdpamehhcblaaGreatDoorD.val_cons, val_zeros, List.length_replicate]; simp
theorem one0_all (k : Nat) : (49 :: List.replicate k (48 : UInt8)).all isDig = true := by
  rw [List.all_eq_true]
  intro x hx
  rcases List.mem_cons.1 hx with rfl | hx
  · decide
  · rw [(List.mem_replicate.1 hx).2]; decide
theorem is48 (l : List UInt8) : ((bs l).toList == [48]) = decide (l = [48]) := by rw [bs_toList, Bool.eq_iff_iff, beq_iff_eq, decide_eq_true_iff]
set_option maxHeartbeats 4000000 in
set_option maxRecDepth 20000 in
theorem number_c (w : World) (he : Env w) (s : List UInt8) (hs : s.length < 4294967281) :
    Calls Tryz.prog 76 #[.string (bs s)] w fun e w' => e = .returned (numV (unum s)) ∧ Gr w w' := by
  have C1 := Cut_c w he s [46] hs
  rw [YtlmdpamehhcblaaGreatDoorD.cut_eq] at C1
  have l1 := cutc_le 46 s
  have HE := Lib.hid he
  generalize hr : unum s = r
  unfold YtlmdpamehhcblaaGreatDoorD.unum at hr
  cases hp : (YtlmdpamehhcblaaGreatDoorD.cutc 46 s).2.2 with
  | true =>
    rw [if_pos hp] at hr
    rw [hp] at C1
    generalize (YtlmdpamehhcblaaGreatDoorD.cutc 46 s).1 = a at *
    generalize (YtlmdpamehhcblaaGreatDoorD.cutc 46 s).2.1 = b at *
    have D1 := Lib.hid (fun w => digits_c w a true (by omega))
    have D2 := Lib.hid (fun w => digits_c w b false (by omega))
    have e1 : udig a true = natural a := rfl
    have e2 : udig b false = digs b := rfl
    rw [e1] at D1
    rw [e2] at D2
    have HC := Lib.hid C1
    have l1' := l1.1
    have l2' := l1.2
    clear C1 hp e1 e2 l1
    cases ha : natural a with
    | false =>
      rw [ha] at D1 hr
      simp only [Bool.not_false, Bool.true_or, if_true] at hr
      subst hr
      clear ha
      go_enter Tryz.func76, Tryz.ntmps76
      go_wp2_with fail
      refine HC.out.mono ?_
      rintro e w1 ⟨rfl, hg1⟩
      go_wp2_with fail
      refine (D1.out _).mono ?_
      rintro e w2 ⟨rfl, hg2⟩
      go_wp2_with fail
      go_ret3
      exact ⟨rfl, hg1.trans hg2⟩
    | true =>
      cases hb : digs b with
      | false =>
        rw [ha] at D1 hr
        rw [hb] at D2 hr
        simp only [Bool.not_false, Bool.not_true, Bool.false_or, if_true] at hr
        subst hr
        clear ha hb
        go_enter Tryz.func76, Tryz.ntmps76
        go_wp2_with fail
        refine HC.out.mono ?_
        rintro e w1 ⟨rfl, hg1⟩
        go_wp2_with fail
        refine (D1.out _).mono ?_
        rintro e w2 ⟨rfl, hg2⟩
        go_wp2_with fail
        refine (D2.out _).mono ?_
        rintro e w3 ⟨rfl, hg3⟩
        go_wp2_with fail
        go_ret3
        exact ⟨rfl, (hg1.trans hg2).trans hg3⟩
      | true =>
        rw [ha] at D1 hr
        rw [hb] at D2 hr
        simp only [Bool.not_true, Bool.false_or, Bool.false_eq_true, if_false] at hr
        have S := Lib.hid (fun w g h0 h1 => short_c w g a b h0 h1 (by omega) (by omega))
        by_cases h6 : 6 < a.length ∨ 6 < b.length
        · rw [if_pos h6] at hr S
          subst hr
          clear ha hb h6
          go_enter Tryz.func76, Tryz.ntmps76
          go_wp2_with fail
          refine HC.out.mono ?_
          rintro e w1 ⟨rfl, hg1⟩
          go_wp2_with fail
          refine (D1.out _).mono ?_
          rintro e w2 ⟨rfl, hg2⟩
          go_wp2_with fail
          refine (D2.out _).mono ?_
          rintro e w3 ⟨rfl, hg3⟩
          have G3 := (hg1.trans hg2).trans hg3
          clear hg1 hg2 hg3
          go_wp2_with fail
          refine (S.out _ _ (new2 w3 _ _ _).1 (new2 w3 _ _ _).2).mono ?_
          rintro e w4 ⟨rfl, hg4⟩
          go_wp2_with fail
          go_ret3
          exact ⟨rfl, (G3.alloc _).trans hg4⟩
        · rw [if_neg h6] at hr S
          have n1 := YtlmdpamehhcblaaGreatDoorD.natural_all ha
          have n2 := YtlmdpamehhcblaaGreatDoorD.digs_all hb
          have b1 := YtlmdpamehhcblaaGreatDoorD.val6 n1.2 (by omega)
          have b2 := YtlmdpamehhcblaaGreatDoorD.val6 n2.2 (by omega)
          have b3 := YtlmdpamehhcblaaGreatDoorD.pow6 (show b.length ≤ 6 by omega)
          have V1 := Lib.hid (fun w => value_c w a n1.1 n1.2 (by omega))
          have V2 := Lib.hid (fun w => value_c w b n2.1 n2.2 (by omega))
          have V3 := Lib.hid (fun w => value_c w (49 :: List.replicate b.length 48) (by simp) (one0_all _) (by simp; omega))
          rw [val_one0] at V3
          have R := Lib.hid (fun w => Repeat_c w [48] b.length (by simp; omega) (by omega))
          rw [repeat0] at R
          have hsz := bs_size b
          have hbl : b.length ≤ 6 := by omega
          have hrs : (bs (List.replicate b.length 48)).size = b.length := by rw [bs_size, List.length_replicate]
          have happ : bs (49 :: List.replicate b.length 48) = { data := #[49] } ++ bs (List.replicate b.length 48) := by
            show _ = bs [49] ++ _
            rw [bs_append]; rfl
          rw [happ] at V3
          have m1 : val a * 10 ^ b.length ≤ 1000000 * 1000000 := Nat.mul_le_mul (by omega) b3
          have m2 : ((val a : Nat) : Int) * ((10 ^ b.length : Nat) : Int) ≤ 1000000000000 := by
            rw [← Int.natCast_mul]; omega
          have m3 : 0 ≤ ((val a : Nat) : Int) * ((10 ^ b.length : Nat) : Int) := by rw [← Int.natCast_mul]; omega
          have er : numV r = .tuple #[.int .i64 (((val a : Nat) : Int) * ((10 ^ b.length : Nat) : Int) + (val b : Nat)), .int .i64 ((10 ^ b.length : Nat) : Int), .int .i64 0] := by
            rw [← hr]; unfold numV; simp
          rw [er]
          clear ha hb h6 n1 n2 happ m1 hr er
          generalize ((10 ^ b.length : Nat) : Int) = p at *
          generalize bs (List.replicate b.length 48) = z at *
          go_enter Tryz.func76, Tryz.ntmps76
          go_wp2_with fail
          refine HC.out.mono ?_
          rintro e w1 ⟨rfl, hg1⟩
          go_wp2_with fail
          refine (D1.out _).mono ?_
          rintro e w2 ⟨rfl, hg2⟩
          go_wp2_with fail
          refine (D2.out _).mono ?_
          rintro e w3 ⟨rfl, hg3⟩
          have G3 := (hg1.trans hg2).trans hg3
          clear hg1 hg2 hg3
          go_wp2_with fail
          refine (S.out _ _ (new2 w3 _ _ _).1 (new2 w3 _ _ _).2).mono ?_
          rintro e w4 ⟨rfl, hg4⟩
          have G4 := (G3.alloc _).trans hg4
          clear hg4 G3
          go_wp2_with fail
          refine (R.out _).mono ?_
          rintro e w5 ⟨rfl, hg5⟩
          go_wp2_with fail
          refine (V3.out _).mono ?_
          rintro e w6 ⟨rfl, hg6⟩
          go_wp2_with fail
          refine (V1.out _).mono ?_
          rintro e w7 ⟨rfl, hg7⟩
          go_wp2_with fail
          refine (V2.out _).mono ?_
          rintro e w8 ⟨rfl, hg8⟩
          go_wp2_with fail
          go_ret3
          exact ⟨rfl, (((G4.trans hg5).trans hg6).trans hg7).trans hg8⟩
  | false =>
    rw [hp] at C1 hr
    simp only [Bool.false_eq_true, if_false] at hr
    have C2 := fun (w : World) (he : Env w) => Cut_c w he s [47] hs
    simp only [YtlmdpamehhcblaaGreatDoorD.cut_eq] at C2
    have l2 := cutc_le 47 s
    generalize (YtlmdpamehhcblaaGreatDoorD.cutc 46 s).1 = a0 at *
    generalize (YtlmdpamehhcblaaGreatDoorD.cutc 46 s).2.1 = b0 at *
    obtain ⟨l2a, l2b⟩ := l2
    generalize hok : (YtlmdpamehhcblaaGreatDoorD.cutc 47 s).2.2 = ok at *
    generalize (YtlmdpamehhcblaaGreatDoorD.cutc 47 s).1 = a at *
    generalize (YtlmdpamehhcblaaGreatDoorD.cutc 47 s).2.1 = b' at *
    have HC := Lib.hid C1
    have HC2 := Lib.hid C2
    clear C1 C2 hp l1 hok
    generalize hbb : (if ok = true then b' else [49]) = b at hr
    have lb : b.length ≤ 4294967281 := by
      rw [← hbb]; split
      · omega
      · simp
    have D1 := Lib.hid (fun w => digits_c w a true (by omega))
    have D2 := Lib.hid (fun w => digits_c w b true (by omega))
    have e1 : udig a true = natural a := rfl
    have e2 : udig b true = natural b := rfl
    rw [e1] at D1
    rw [e2] at D2
    have S := Lib.hid (fun w g h0 h1 => short_c w g a b h0 h1 (by omega) (by omega))
    have Z := is48 b
    have hsel : (ok = true ∧ b' = b) ∨ (ok = false ∧ b = [49]) := by
      cases ok
      · exact .inr ⟨rfl, by simpa using hbb.symm⟩
      · exact .inl ⟨rfl, by simpa using hbb⟩
    clear e1 e2 hbb
    cases ha : natural a with
    | false =>
      rw [ha] at D1 hr
      simp only [Bool.not_false, Bool.true_or, if_true] at hr
      subst hr
      clear ha Z
      rcases hsel with ⟨rfl, rfl⟩ | ⟨rfl, rfl⟩
      all_goals (
        go_enter Tryz.func76, Tryz.ntmps76
        go_wp2_with fail
        refine HC.out.mono ?_
        rintro e w1 ⟨rfl, hg1⟩
        go_wp2_with fail
        refine (HC2.out _ (HE.out.gr hg1)).mono ?_
        rintro e w2 ⟨rfl, hg2⟩
        have G2 := hg1.trans hg2
        clear hg1 hg2
        go_wp2_with fail
        refine (D1.out _).mono ?_
        rintro e w3 ⟨rfl, hg3⟩
        have G3 := G2.trans hg3
        clear G2 hg3
        go_wp2_with fail
        go_ret3
        exact ⟨rfl, G3⟩)
    | true =>
      cases hb : natural b with
      | false =>
        rw [ha] at D1 hr
        rw [hb] at D2 hr
        simp only [Bool.not_false, Bool.not_true, Bool.false_or, if_true] at hr
        subst hr
        clear ha hb Z
        rcases hsel with ⟨rfl, rfl⟩ | ⟨rfl, rfl⟩
        all_goals (
          go_enter Tryz.func76, Tryz.ntmps76
          go_wp2_with fail
          refine HC.out.mono ?_
          rintro e w1 ⟨rfl, hg1⟩
          go_wp2_with fail
          refine (HC2.out _ (HE.out.gr hg1)).mono ?_
          rintro e w2 ⟨rfl, hg2⟩
          have G2 := hg1.trans hg2
          clear hg1 hg2
          go_wp2_with fail
          refine (D1.out _).mono ?_
          rintro e w3 ⟨rfl, hg3⟩
          have G3 := G2.trans hg3
          clear G2 hg3
          go_wp2_with fail
          refine (D2.out _).mono ?_
          rintro e w4 ⟨rfl, hg4⟩
          have G4 := G3.trans hg4
          clear G3 hg4
          go_wp2_with fail
          go_ret3
          exact ⟨rfl, G4⟩)
      | true =>
        rw [ha] at D1 hr
        rw [hb] at D2 hr
        simp only [Bool.not_true, Bool.false_or, Bool.false_eq_true, if_false] at hr
        by_cases h6 : 6 < a.length ∨ 6 < b.length
        · rw [if_pos h6] at hr S
          subst hr
          clear ha hb h6 Z
          rcases hsel with ⟨rfl, rfl⟩ | ⟨rfl, rfl⟩
          all_goals (
            go_enter Tryz.func76, Tryz.ntmps76
            go_wp2_with fail
            refine HC.out.mono ?_
            rintro e w1 ⟨rfl, hg1⟩
            go_wp2_with fail
            refine (HC2.out _ (HE.out.gr hg1)).mono ?_
            rintro e w2 ⟨rfl, hg2⟩
            have G2 := hg1.trans hg2
            clear hg1 hg2
            go_wp2_with fail
            refine (D1.out _).mono ?_
            rintro e w3 ⟨rfl, hg3⟩
            have G3 := G2.trans hg3
            clear G2 hg3
            go_wp2_with fail
            refine (D2.out _).mono ?_
            rintro e w4 ⟨rfl, hg4⟩
            have G4 := G3.trans hg4
            clear G3 hg4
            go_wp2_with fail
            refine (S.out _ _ (new2 w4 _ _ _).1 (new2 w4 _ _ _).2).mono ?_
            rintro e w5 ⟨rfl, hg5⟩
            have G5 := (G4.alloc _).trans hg5
            clear G4 hg5
            go_wp2_with fail
            go_ret3
            exact ⟨rfl, G5⟩)
        · rw [if_neg h6] at hr S
          have n1 := YtlmdpamehhcblaaGreatDoorD.natural_all ha
          have n2 := YtlmdpamehhcblaaGreatDoorD.natural_all hb
          have V1 := Lib.hid (fun w => value_c w a n1.1 n1.2 (by omega))
          have V2 := Lib.hid (fun w => value_c w b n2.1 n2.2 (by omega))
          by_cases hz : b = [48]
          · rw [if_pos hz] at hr
            rw [decide_eq_true hz] at Z
            subst hr
            clear ha hb h6 n1 n2 V1 V2
            rcases hsel with ⟨rfl, rfl⟩ | ⟨rfl, rfl⟩
            · clear hz
              go_enter Tryz.func76, Tryz.ntmps76
              go_wp2_with fail
              refine HC.out.mono ?_
              rintro e w1 ⟨rfl, hg1⟩
              go_wp2_with fail
              refine (HC2.out _ (HE.out.gr hg1)).mono ?_
              rintro e w2 ⟨rfl, hg2⟩
              have G2 := hg1.trans hg2
              clear hg1 hg2
              go_wp2_with fail
              refine (D1.out _).mono ?_
              rintro e w3 ⟨rfl, hg3⟩
              have G3 := G2.trans hg3
              clear G2 hg3
              go_wp2_with fail
              refine (D2.out _).mono ?_
              rintro e w4 ⟨rfl, hg4⟩
              have G4 := G3.trans hg4
              clear G3 hg4
              go_wp2_with fail
              refine (S.out _ _ (new2 w4 _ _ _).1 (new2 w4 _ _ _).2).mono ?_
              rintro e w5 ⟨rfl, hg5⟩
              have G5 := (G4.alloc _).trans hg5
              clear G4 hg5
              go_wp2_with fail
              go_ret3
              exact ⟨rfl, G5⟩
            · exact absurd hz (by decide)
          · rw [if_neg hz] at hr
            rw [decide_eq_false hz] at Z
            have er : numV r = .tuple #[.int .i64 ((val a : Nat) : Int), .int .i64 ((val b : Nat) : Int), .int .i64 0] := by
              rw [← hr]; rfl
            rw [er]
            clear ha hb h6 hz n1 n2 hr er
            generalize ((val a : Nat) : Int) = va at *
            generalize ((val b : Nat) : Int) = vb at *
            rcases hsel with ⟨rfl, rfl⟩ | ⟨rfl, rfl⟩
            all_goals (
              go_enter Tryz.func76, Tryz.ntmps76
              go_wp2_with fail
              refine HC.out.mono ?_
              rintro e w1 ⟨rfl, hg1⟩
              go_wp2_with fail
              refine (HC2.out _ (HE.out.gr hg1)).mono ?_
              rintro e w2 ⟨rfl, hg2⟩
              have G2 := hg1.trans hg2
              clear hg1 hg2
              go_wp2_with fail
              refine (D1.out _).mono ?_
              rintro e w3 ⟨rfl, hg3⟩
              have G3 := G2.trans hg3
              clear G2 hg3
              go_wp2_with fail
              refine (D2.out _).mono ?_
              rintro e w4 ⟨rfl, hg4⟩
              have G4 := G3.trans hg4
              clear G3 hg4
              go_wp2_with fail
              refine (S.out _ _ (new2 w4 _ _ _).1 (new2 w4 _ _ _).2).mono ?_
              rintro e w5 ⟨rfl, hg5⟩
              have G5 := (G4.alloc _).trans hg5
              clear G4 hg5
              go_wp2_with fail
              refine (V1.out _).mono ?_
              rintro e w6 ⟨rfl, hg6⟩
              go_wp2_with fail
              refine (V2.out _).mono ?_
              rintro e w7 ⟨rfl, hg7⟩
              go_wp2_with fail
              go_ret3
              exact ⟨rfl, (G5.trans hg6).trans hg7⟩)
end Go.Proofs.YtlmdpamehhcblaaGreatDoor
