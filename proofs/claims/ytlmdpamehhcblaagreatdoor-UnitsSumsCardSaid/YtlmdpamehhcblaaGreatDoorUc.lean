import Derived.Test.YtlmdpamehhcblaaGreatDoorUb
/- Contracts of package units: beyond, Exact. -/
namespace Go.Proofs.YtlmdpamehhcblaaGreatDoor
open Go.RowKit
open Go.Lib (itoa decDigits)
open YtlmdpamehhcblaaGreatDoorD (rtext natural digs uword uval uidx isDig unum val ubeyond uexact Q usign usize)

theorem sgn_pos (a b : Rat) : 0 < (a.num * (b.den : Int) - b.num * (a.den : Int)).sign ↔ b < a := by
  rw [Int.sign_pos_iff, Rat.lt_iff]; omega
theorem sgn_neg (a b : Rat) : (a.num * (b.den : Int) - b.num * (a.den : Int)).sign < 0 ↔ a < b := by
  rw [Rat.lt_iff]
  constructor
  · intro h
    have := Int.sign_neg_iff.1 h
    omega
  · intro h
    exact Int.sign_neg_iff.2 (by omega)
theorem q_big : Q ((100000 : Int) : Rat) := YtlmdpamehhcblaaGreatDoorD.Q.of (k := 6) (by decide) (by decide) (by decide)
theorem q_low : Q ((-100000 : Int) : Rat) := YtlmdpamehhcblaaGreatDoorD.Q.of (k := 6) (by decide) (by decide) (by decide)
set_option maxHeartbeats 1000000 in
theorem beyond13_c (w : World) (he : Env w) (x : Rat) (hx : Q x) : Calls Tryz.prog 79 #[.string (bs (rtext x))] w fun e w' => e = .returned (.bool (ubeyond x)) ∧ Gr w w' := by
  have W1 := Lib.hid (fun w he => RWhole_c w he 100000 (by decide) (by decide))
  have W2 := Lib.hid (fun w he => RWhole_c w he (-100000) (by decide) (by decide))
  have K1 := Lib.hid (fun w he => RCompare_c w he x _ hx q_big)
  have K2 := Lib.hid (fun w he => RCompare_c w he x _ hx q_low)
  have p1 := sgn_pos x ((100000 : Int) : Rat)
  have p2 := sgn_neg x ((-100000 : Int) : Rat)
  have HE := Lib.hid he
  have e : ubeyond x = (decide (((100000 : Int) : Rat) < x) || decide (x < ((-100000 : Int) : Rat))) := rfl
  rw [e]
  clear e hx he
  unfold RetR at W1 W2
  unfold RetN at K1 K2
  generalize ((100000 : Int) : Rat) = c1 at *
  generalize ((-100000 : Int) : Rat) = c2 at *
  generalize bs (rtext x) = s at *
  generalize (x.num * (c1.den : Int) - c1.num * (x.den : Int)).sign = g1 at *
  generalize (x.num * (c2.den : Int) - c2.num * (x.den : Int)).sign = g2 at *
  generalize bs (rtext c1) = s1 at *
  generalize bs (rtext c2) = s2 at *
  by_cases q1 : c1 < x
  · have h1 := p1.2 q1
    rw [decide_eq_true q1, Bool.true_or]
    clear p1 p2 q1
    go_enter Tryz.func79, Tryz.ntmps79
    go_wp2_with fail
    refine (W1.out _ HE.out).mono ?_
    rintro e w1 ⟨rfl, hg1⟩
    go_wp2_with fail
    refine (K1.out _ (HE.out.gr hg1)).mono ?_
    rintro e w2 ⟨rfl, hg2⟩
    have G2 := hg1.trans hg2
    clear hg1 hg2
    go_wp2_with fail
    refine (W2.out _ (HE.out.gr G2)).mono ?_
    rintro e w3 ⟨rfl, hg3⟩
    have G3 := G2.trans hg3
    clear G2 hg3
    go_wp2_with fail
    refine (K2.out _ (HE.out.gr G3)).mono ?_
    rintro e w4 ⟨rfl, hg4⟩
    go_wp2_with fail
    go_ret
    exact ⟨rfl, G3.trans hg4⟩
  · have h1 : ¬ 0 < g1 := fun x => q1 (p1.1 x)
    rw [decide_eq_false q1, Bool.false_or]
    clear p1 q1
    by_cases q2 : x < c2
    · have h2 := p2.2 q2
      rw [decide_eq_true q2]
      clear p2 q2
      go_enter Tryz.func79, Tryz.ntmps79
      go_wp2_with fail
      refine (W1.out _ HE.out).mono ?_
      rintro e w1 ⟨rfl, hg1⟩
      go_wp2_with fail
      refine (K1.out _ (HE.out.gr hg1)).mono ?_
      rintro e w2 ⟨rfl, hg2⟩
      have G2 := hg1.trans hg2
      clear hg1 hg2
      go_wp2_with fail
      refine (W2.out _ (HE.out.gr G2)).mono ?_
      rintro e w3 ⟨rfl, hg3⟩
      have G3 := G2.trans hg3
      clear G2 hg3
      go_wp2_with fail
      refine (K2.out _ (HE.out.gr G3)).mono ?_
      rintro e w4 ⟨rfl, hg4⟩
      go_wp2_with fail
      go_ret
      exact ⟨by first | rfl | (simp; omega), G3.trans hg4⟩
    · have h2 : ¬ g2 < 0 := fun x => q2 (p2.1 x)
      rw [decide_eq_false q2]
      clear p2 q2
      go_enter Tryz.func79, Tryz.ntmps79
      go_wp2_with fail
      refine (W1.out _ HE.out).mono ?_
      rintro e w1 ⟨rfl, hg1⟩
      go_wp2_with fail
      refine (K1.out _ (HE.out.gr hg1)).mono ?_
      rintro e w2 ⟨rfl, hg2⟩
      have G2 := hg1.trans hg2
      clear hg1 hg2
      go_wp2_with fail
      refine (W2.out _ (HE.out.gr G2)).mono ?_
      rintro e w3 ⟨rfl, hg3⟩
      have G3 := G2.trans hg3
      clear G2 hg3
      go_wp2_with fail
      refine (K2.out _ (HE.out.gr G3)).mono ?_
      rintro e w4 ⟨rfl, hg4⟩
      go_wp2_with fail
      go_ret
      exact ⟨by first | rfl | (simp; omega), G3.trans hg4⟩
theorem vtext (u : Nat) (h : u < 5) : rtext (uval u) = ([[49], [49, 48, 48, 48], [49, 48, 48, 48, 48], [50, 53, 52, 48, 48], [49, 50, 55, 47, 53]] : List (List UInt8)).getD u [] := by
  match u, h with
  | 0, _ => decide +kernel
  | 1, _ => decide +kernel
  | 2, _ => decide +kernel
  | 3, _ => decide +kernel
  | 4, _ => decide +kernel
theorem rows_atU (u : Nat) (h : u < 5) (w : World) : (Instr.index 109 (.agg #[.string w0, .string v0, .int .i64 0, .string w1, .string v1, .int .i64 3, .string w2, .string v2, .int .i64 4, .string w3, .string v3, .int .i64 (-1), .string w4, .string v4, .int .i64 (-1)]) (.int .i64 (u : Nat))).run Tryz.prog w =
    .ok (.agg #[.string (bs (uword u)), .string (bs (rtext (uval u))), .int .i64 (YtlmdpamehhcblaaGreatDoorD.uplaces.getD u 0)]) w := by
  rw [vtext u h]
  match u, h with
  | 0, _ => exact rows_at0 _ _ _ _ _ _
  | 1, _ => exact rows_at1 _ _ _ _ _ _
  | 2, _ => exact rows_at2 _ _ _ _ _ _
  | 3, _ => exact rows_at3 _ _ _ _ _ _
  | 4, _ => exact rows_at4 _ _ _ _ _ _
/-- What units.Exact answers. -/
def exactV : Except Int Rat → Value
  | .ok x => .tuple #[.string (bs (rtext x)), .int .i64 0]
  | .error e => .tuple #[.string (bs []), .int .i64 e]
theorem unum_err {s : List UInt8} {e : Int} (h : unum s = .error e) : e ≠ 0 ∧ 0 ≤ e ∧ e ≤ 100 := by
  unfold YtlmdpamehhcblaaGreatDoorD.unum at h
  split at h
  · split at h
    · cases h; decide
    · split at h
      · cases h; decide
      · cases h
  · generalize (if (YtlmdpamehhcblaaGreatDoorD.cutc 47 s).2.2 = true then (YtlmdpamehhcblaaGreatDoorD.cutc 47 s).2.1 else [49]) = b at h
    simp only [] at h
    split at h
    · cases h; decide
    · split at h
      · cases h; decide
      · split at h
        · cases h; decide
        · cases h
set_option maxHeartbeats 4000000 in
set_option maxRecDepth 20000 in
theorem Exact_c (w : World) (he : Env w) (s : List UInt8) (hs : s.length < 4294967281) : Calls Tryz.prog 21 #[.string (bs s)] w fun e w' => e = .returned (exactV (uexact s)) ∧ Gr w w' := by
  have hsz := bs_size s
  generalize hr : uexact s = r
  unfold YtlmdpamehhcblaaGreatDoorD.uexact at hr
  by_cases h40 : 40 < s.length
  · rw [if_pos h40] at hr
    subst hr
    go_enter Tryz.func21, Tryz.ntmps21
    go_wp2_with fail
    go_ret2
    exact ⟨rfl, Gr.refl _⟩
  · rw [if_neg h40] at hr
    have HC := Cut_c w he s [32] hs
    rw [YtlmdpamehhcblaaGreatDoorD.cut_eq] at HC
    obtain ⟨lf, lw⟩ := cutc_le 32 s
    generalize (YtlmdpamehhcblaaGreatDoorD.cutc 32 s).1 = f at *
    generalize (YtlmdpamehhcblaaGreatDoorD.cutc 32 s).2.1 = word at *
    generalize (YtlmdpamehhcblaaGreatDoorD.cutc 32 s).2.2 = blank at *
    have HP := Lib.hid (fun w => CutPrefix_c w f [45])
    have lsz : (Lib.trimPrefix f [45]).length ≤ f.length := by rw [trim_minus]; exact mag_le f
    unfold YtlmdpamehhcblaaGreatDoorD.usize at hr
    have HN := Lib.hid (fun w he => number_c w he (Lib.trimPrefix f [45]) (by omega))
    have HU := Lib.hid (fun w => Unit_c w word)
    have HE := Lib.hid he
    have HC := Lib.hid HC
    generalize Lib.hasPrefix f [45] = minus at *
    generalize hsize : Lib.trimPrefix f [45] = size at *
    clear he hsize lsz
    unfold RetUnit at HU
    cases hn : unum size with
    | error e =>
      obtain ⟨z0, z1, z2⟩ := unum_err hn
      rw [hn] at hr HN
      simp only [] at hr
      subst hr
      clear hn
      simp only [numV] at HN
      go_enter Tryz.func21, Tryz.ntmps21
      go_wp2_with fail
      refine HC.out.mono ?_
      rintro e1 w1 ⟨rfl, hg1⟩
      go_wp2_with fail
      refine (HP.out _).mono ?_
      rintro e1 w2 ⟨rfl, rfl⟩
      go_wp2_with fail
      refine (HN.out _ (HE.out.gr hg1)).mono ?_
      rintro e1 w3 ⟨rfl, hg3⟩
      go_wp2_with fail
      go_ret2
      exact ⟨rfl, hg1.trans hg3⟩
    | ok nd =>
      obtain ⟨n, d⟩ := nd
      obtain ⟨b1, b2, b3⟩ := YtlmdpamehhcblaaGreatDoorD.unum_bd hn
      rw [hn] at hr HN
      simp only [] at hr
      simp only [numV] at HN
      clear hn
      have n13 : (n : Int) ≤ 10000000000000 := by
        have e1 : (10 : Nat) ^ 13 = 10000000000000 := by decide
        omega
      have dz : (d : Int) ≤ 1000000 := by omega
      have d1 : 1 ≤ (d : Int) := by omega
      cases hu : uidx word with
      | none =>
        have hr2 : r = .error 20 := by
          rw [← hr, hu]; cases blank <;> rfl
        rw [hu] at HU
        simp only [unitV] at HU
        rw [hr2]
        clear hr hr2 hu b1 b2 b3
        have n0 : 0 ≤ (n : Int) := by omega
        generalize (n : Int) = n at *
        generalize (d : Int) = d at *
        cases minus
        all_goals (
          go_enter Tryz.func21, Tryz.ntmps21
          go_wp2_with fail
          refine HC.out.mono ?_
          rintro e1 w1 ⟨rfl, hg1⟩
          go_wp2_with fail
          refine (HP.out _).mono ?_
          rintro e1 w2 ⟨rfl, rfl⟩
          go_wp2_with fail
          refine (HN.out _ (HE.out.gr hg1)).mono ?_
          rintro e1 w3 ⟨rfl, hg3⟩
          have G3 := hg1.trans hg3
          clear hg1 hg3
          go_wp2_with fail
          refine (HU.out _).mono ?_
          rintro e1 w4 ⟨rfl, hg4⟩
          have G4 := G3.trans hg4
          clear G3 hg4
          go_wp2_with fail
          go_ret2
          exact ⟨rfl, G4⟩)
      | some u =>
        obtain ⟨hu5, hw⟩ := YtlmdpamehhcblaaGreatDoorD.uidx_lt hu
        rw [hu] at HU hr
        simp only [unitV] at HU
        cases blank with
        | false =>
          simp only [Bool.false_eq_true, if_false] at hr
          subst hr
          clear hu b1 b2 b3 hw
          have n0 : 0 ≤ (n : Int) := by omega
          generalize (n : Int) = n at *
          generalize (d : Int) = d at *
          cases minus
          all_goals (
            go_enter Tryz.func21, Tryz.ntmps21
            go_wp2_with fail
            refine HC.out.mono ?_
            rintro e1 w1 ⟨rfl, hg1⟩
            go_wp2_with fail
            refine (HP.out _).mono ?_
            rintro e1 w2 ⟨rfl, rfl⟩
            go_wp2_with fail
            refine (HN.out _ (HE.out.gr hg1)).mono ?_
            rintro e1 w3 ⟨rfl, hg3⟩
            have G3 := hg1.trans hg3
            clear hg1 hg3
            go_wp2_with fail
            refine (HU.out _).mono ?_
            rintro e1 w4 ⟨rfl, hg4⟩
            have G4 := G3.trans hg4
            clear G3 hg4
            go_wp2_with fail
            go_ret2
            exact ⟨rfl, G4⟩)
        | true =>
          simp only [if_true] at hr
          have e13 : (10 : Nat) ^ 13 = 10000000000000 := by decide
          have e6 : (10 : Nat) ^ 6 = 1000000 := by decide
          have e18 : (10 : Nat) ^ 18 = 1000000000000000000 := by decide
          have qa : Q (mkRat (usign minus n) d) := by
            have h := YtlmdpamehhcblaaGreatDoorD.mkRat_parts (usign minus n) d b3
            rw [YtlmdpamehhcblaaGreatDoorD.usign_abs] at h
            exact YtlmdpamehhcblaaGreatDoorD.Q.of (k := 13) (by decide) (by omega) (by omega)
          obtain ⟨v1, v2, _⟩ := YtlmdpamehhcblaaGreatDoorD.uval_parts u
          have qb : Q (uval u) := YtlmdpamehhcblaaGreatDoorD.Q.of (k := 6) (by decide) (by omega) (by omega)
          have qc : Q (mkRat (usign minus n) d * uval u) := by
            have h := YtlmdpamehhcblaaGreatDoorD.mkRat_parts (usign minus n) d b3
            rw [YtlmdpamehhcblaaGreatDoorD.usign_abs] at h
            have k := YtlmdpamehhcblaaGreatDoorD.mul_parts (mkRat (usign minus n) d) (uval u)
            have m1 := Nat.mul_le_mul (Nat.le_trans h.1 (Nat.le_of_lt b1)) v1
            have m2 := Nat.mul_le_mul (Nat.le_trans h.2 b2) v2
            rw [e13] at m1
            exact YtlmdpamehhcblaaGreatDoorD.Q.of (k := 18) (by decide) (by omega) (by omega)
          have us : usign minus n = if minus then -(n : Int) else n := rfl
          have O := Lib.hid (fun w he => ROf_c w he (usign minus n) d (by rw [us]; split <;> omega) (by rw [us]; split <;> omega) (by omega) b3)
          have M := Lib.hid (fun w he => RMul_c w he _ _ qa qb)
          have BY := Lib.hid (fun w he => beyond13_c w he _ qc)
          have HR := Lib.hid (fun w => rows_c w)
          have RU := rows_atU u hu5
          unfold RetRQ at O M
          generalize mkRat (usign minus n) d = a at *
          generalize hx : a * uval u = x at *
          have us' : usign minus n = if minus then -(n : Int) else n := us
          rw [us] at O
          clear hu b1 b2 b3 hw qa qb qc v1 v2 us us' hx e13 e6 e18
          have n0 : 0 ≤ (n : Int) := by omega
          generalize bs (rtext (uval u)) = vt at *
          generalize bs (uword u) = wt at *
          generalize (YtlmdpamehhcblaaGreatDoorD.uplaces.getD u 0) = pl at *
          generalize bs (rtext a) = at' at *
          generalize (n : Int) = n at *
          generalize (d : Int) = d at *
          have rt : r = if ubeyond x = true then .error 2 else .ok x := hr.symm
          cases hby : ubeyond x with
          | false =>
            rw [hby] at rt BY
            simp only [Bool.false_eq_true, if_false] at rt
            rw [rt]
            clear rt hr hby
            have er : exactV (.ok x) = .tuple #[.string (bs (rtext x)), .int .i64 0] := rfl
            rw [er]
            clear er
            generalize bs (rtext x) = xt at *
            cases minus
            all_goals (
              simp only [Bool.false_eq_true, if_false, if_true] at O
              go_enter Tryz.func21, Tryz.ntmps21
              go_wp2_with fail
              refine HC.out.mono ?_
              rintro e1 w1 ⟨rfl, hg1⟩
              go_wp2_with fail
              refine (HP.out _).mono ?_
              rintro e1 w2 ⟨rfl, rfl⟩
              go_wp2_with fail
              refine (HN.out _ (HE.out.gr hg1)).mono ?_
              rintro e1 w3 ⟨rfl, hg3⟩
              have G3 := hg1.trans hg3
              clear hg1 hg3
              go_wp2_with fail
              refine (HU.out _).mono ?_
              rintro e1 w4 ⟨rfl, hg4⟩
              have G4 := G3.trans hg4
              clear G3 hg4
              go_wp2_with fail
              refine (O.out _ (HE.out.gr G4)).mono ?_
              rintro e1 w5 ⟨rfl, hg5⟩
              have G5 := G4.trans hg5
              clear G4 hg5
              go_wp2_with fail
              refine (HR.out _).mono ?_
              rintro e1 w6 ⟨rfl, hg6⟩
              have G6 := G5.trans hg6
              clear G5 hg6
              go_wp2_with fail
              rw [field1]
              go_wp2_with fail
              refine (M.out _ (HE.out.gr G6)).mono ?_
              rintro e1 w7 ⟨rfl, hg7⟩
              have G7 := G6.trans hg7
              clear G6 hg7
              go_wp2_with fail
              refine (BY.out _ (HE.out.gr G7)).mono ?_
              rintro e1 w8 ⟨rfl, hg8⟩
              go_wp2_with fail
              go_ret2
              exact ⟨rfl, G7.trans hg8⟩)
          | true =>
            rw [hby] at rt BY
            simp only [if_true] at rt
            rw [rt]
            clear rt hr hby
            generalize bs (rtext x) = xt at *
            cases minus
            all_goals (
              simp only [Bool.false_eq_true, if_false, if_true] at O
              go_enter Tryz.func21, Tryz.ntmps21
              go_wp2_with fail
              refine HC.out.mono ?_
              rintro e1 w1 ⟨rfl, hg1⟩
              go_wp2_with fail
              refine (HP.out _).mono ?_
              rintro e1 w2 ⟨rfl, rfl⟩
              go_wp2_with fail
              refine (HN.out _ (HE.out.gr hg1)).mono ?_
              rintro e1 w3 ⟨rfl, hg3⟩
              have G3 := hg1.trans hg3
              clear hg1 hg3
              go_wp2_with fail
              refine (HU.out _).mono ?_
              rintro e1 w4 ⟨rfl, hg4⟩
              have G4 := G3.trans hg4
              clear G3 hg4
              go_wp2_with fail
              refine (O.out _ (HE.out.gr G4)).mono ?_
              rintro e1 w5 ⟨rfl, hg5⟩
              have G5 := G4.trans hg5
              clear G4 hg5
              go_wp2_with fail
              refine (HR.out _).mono ?_
              rintro e1 w6 ⟨rfl, hg6⟩
              have G6 := G5.trans hg6
              clear G5 hg6
              go_wp2_with fail
              rw [field1]
              go_wp2_with fail
              refine (M.out _ (HE.out.gr G6)).mono ?_
              rintro e1 w7 ⟨rfl, hg7⟩
              have G7 := G6.trans hg7
              clear G6 hg7
              go_wp2_with fail
              refine (BY.out _ (HE.out.gr G7)).mono ?_
              rintro e1 w8 ⟨rfl, hg8⟩
              go_wp2_with fail
              go_ret2
              exact ⟨rfl, G7.trans hg8⟩)
end Go.Proofs.YtlmdpamehhcblaaGreatDoor
