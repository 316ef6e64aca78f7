import Derived.Test.YtlmdpamehhcblaaGreatDoorWo
import Derived.Test.YtlmdpamehhcblaaGreatDoorCut
/- Contracts of package ratio: cut, joined, Check. -/
namespace Go.Proofs.YtlmdpamehhcblaaGreatDoor
open Go.RowKit
open Go.Lib (itoa decDigits)
open YtlmdpamehhcblaaGreatDoorD (rtext rjoin cutc canon)

/-- A number's numerator and denominator, as they stand, and whether the latter does. -/
def rcut (l : List UInt8) : List UInt8 × List UInt8 × Bool := ((YtlmdpamehhcblaaGreatDoorD.cutc 47 l).1, if (YtlmdpamehhcblaaGreatDoorD.cutc 47 l).2.2 then (YtlmdpamehhcblaaGreatDoorD.cutc 47 l).2.1 else [49], (YtlmdpamehhcblaaGreatDoorD.cutc 47 l).2.2)
set_option maxHeartbeats 1000000 in
theorem cut_c (w : World) (he : Env w) (l : List UInt8) (hl : l.length < 4294967281) :
    Calls Tryz.prog 101 #[.string (bs l)] w fun e w' => e = .returned (.tuple #[.string (bs (rcut l).1), .string (bs (rcut l).2.1), .bool (rcut l).2.2]) ∧ Gr w w' := by
  have HC := Cut_c w he l [47] hl
  rw [YtlmdpamehhcblaaGreatDoorD.cut_eq] at HC
  unfold rcut
  have H := Lib.hid HC
  clear HC hl
  generalize YtlmdpamehhcblaaGreatDoorD.cutc 47 l = c at *
  obtain ⟨n, d, ok⟩ := c
  cases ok <;> simp only [Bool.false_eq_true, if_false, if_true] at H ⊢ <;> generalize bs n = n at * <;> generalize bs d = d at * <;> generalize bs l = l at *
  all_goals (
    go_enter Tryz.func101, Tryz.ntmps101
    go_wp2_with fail
    refine H.out.mono ?_
    rintro e w1 ⟨rfl, hg⟩
    go_wp2_with fail
    go_ret3
    exact ⟨rfl, hg⟩)
theorem isOne (l : List UInt8) : ((bs l).toList == [49]) = decide (l = [49]) := by rw [bs_toList, Bool.eq_iff_iff, beq_iff_eq, decide_eq_true_iff]
set_option maxHeartbeats 1000000 in
theorem joined_c (w : World) (n d : List UInt8) (hl : n.length + d.length ≤ 9223372036854775806) : Calls Tryz.prog 186 #[.string (bs n), .string (bs d)] w fun e w' => e = .returned (.string (bs (rjoin n d))) ∧ w' = w := by
  unfold rjoin
  have h1 := isOne d
  have hsz : (bs n ++ bs [47]).size = n.length + 1 := by rw [bs_append, bs_size]; simp
  rw [← bs_size n, ← bs_size d] at hl
  rw [← bs_size n] at hsz
  have hsz0 : (bs n ++ { data := #[47] }).size = (bs n).size + 1 := hsz
  by_cases h : d = [49]
  · rw [if_pos h]
    rw [decide_eq_true h] at h1
    clear h
    generalize bs d = d at *
    go_enter Tryz.func186, Tryz.ntmps186
    go_wp2_with fail
    go_ret
    exact ⟨rfl, rfl⟩
  · rw [if_neg h]
    rw [decide_eq_false h] at h1
    have h2 : bs n ++ bs [47] ++ bs d = bs (n ++ 47 :: d) := by rw [bs_append, bs_append]; simp
    rw [← h2]
    clear h h2
    generalize bs d = d at *
    generalize bs n = n at *
    go_enter Tryz.func186, Tryz.ntmps186
    go_wp2_with fail
    go_ret
    exact ⟨rfl, rfl⟩
/-- Whether a text is a rational number's. -/
def isR (l : List UInt8) : Prop := ∃ q : Rat, l = rtext q
open Classical in
/-- What ratio.Check answers. -/
noncomputable def rchk (l : List UInt8) : Int :=
  if chk (rcut l).1 = 3 ∨ chk (rcut l).2.1 = 3 then 3 else if chk (rcut l).1 ≠ 0 ∨ chk (rcut l).2.1 ≠ 0 then 11 else if isR l then 0 else 3
theorem chk_or (s : List UInt8) : chk s = 0 ∨ chk s = 3 ∨ chk s = 11 := by unfold chk; split <;> (try split) <;> simp
theorem nDigits_lt {u : Nat} (h : Lib.nDigits u ≤ 1024) : u < YtlmdpamehhcblaaGreatDoorD.Lim := by
  rw [← YtlmdpamehhcblaaGreatDoorD.limE_eq] at h
  exact (YtlmdpamehhcblaaGreatDoorD.nDigits_le_iff u YtlmdpamehhcblaaGreatDoorD.limE (by rw [YtlmdpamehhcblaaGreatDoorD.limE_eq]; omega)).1 h
theorem chk_zero {s : List UInt8} (h : chk s = 0) : ∃ n : Int, s = itoa n ∧ n.natAbs < YtlmdpamehhcblaaGreatDoorD.Lim := by
  unfold chk at h
  split at h
  · rename_i hc
    obtain ⟨n, rfl⟩ := (YtlmdpamehhcblaaGreatDoorD.canon_iff s).1 hc
    split at h
    · omega
    · rename_i hl
      rw [YtlmdpamehhcblaaGreatDoorD.mag_itoa, YtlmdpamehhcblaaGreatDoorD.decDigits_len] at hl
      exact ⟨n, rfl, nDigits_lt (by omega)⟩
  · omega
theorem rcut_parts {l : List UInt8} (n d : Int) (hw : (rcut l).2.2 = true) (h1 : (rcut l).1 = itoa n) (h2 : (rcut l).2.1 = itoa d) : isR l ↔ 0 < (d - 1).sign ∧ Nat.gcd n.natAbs d.natAbs = 1 := by
  rcases YtlmdpamehhcblaaGreatDoorD.cutc_spec 47 l with ⟨hm, ht, he, hn⟩ | ⟨hm, he⟩
  · unfold rcut at h1 h2
    rw [ht, if_pos rfl] at h2
    dsimp only at h1 h2
    have e : l = itoa n ++ 47 :: itoa d := by rw [← h1, ← h2]; exact he
    constructor
    · rintro ⟨q, hq⟩
      have hc := YtlmdpamehhcblaaGreatDoorD.cutc_rtext q
      rw [← hq] at hc
      split at hc
      · rw [hc] at ht; simp at ht
      · rename_i hd
        rw [hc] at h1 h2
        have e1 := YtlmdpamehhcblaaGreatDoorD.itoa_inj h1
        have e2 : (q.den : Int) = d := YtlmdpamehhcblaaGreatDoorD.itoa_inj (by rw [YtlmdpamehhcblaaGreatDoorD.itoa_nat]; exact h2)
        have hz := q.den_nz
        subst e1
        rw [← e2]
        refine ⟨?_, q.reduced⟩
        rw [Int.sign_pos_iff]
        omega
    · rintro ⟨hs, hg⟩
      rw [Int.sign_pos_iff] at hs
      refine ⟨⟨n, d.natAbs, by omega, hg⟩, ?_⟩
      unfold rtext
      rw [if_neg (by show ¬ d.natAbs = 1; omega), e, ← YtlmdpamehhcblaaGreatDoorD.itoa_nat, show ((d.natAbs : Nat) : Int) = d by omega]
  · unfold rcut at hw
    rw [he] at hw; simp at hw
theorem rcut_plain {l : List UInt8} (n : Int) (hw : (rcut l).2.2 = false) (h1 : (rcut l).1 = itoa n) : isR l := by
  rcases YtlmdpamehhcblaaGreatDoorD.cutc_spec 47 l with ⟨hm, ht, he, hn⟩ | ⟨hm, he⟩
  · unfold rcut at hw
    rw [ht] at hw; simp at hw
  · unfold rcut at h1
    rw [he] at h1
    dsimp only at h1
    exact ⟨n, by rw [h1, YtlmdpamehhcblaaGreatDoorD.rtext_ofInt]⟩
theorem rcut_le (l : List UInt8) (h : 1 ≤ l.length) : (rcut l).1.length ≤ l.length ∧ (rcut l).2.1.length ≤ l.length := by
  rcases YtlmdpamehhcblaaGreatDoorD.cutc_spec 47 l with ⟨hm, ht, he, hn⟩ | ⟨hm, he⟩
  · unfold rcut
    have hl := congrArg List.length he
    rw [List.length_append, List.length_cons] at hl
    rw [ht, if_pos rfl]
    dsimp only
    omega
  · unfold rcut
    rw [he]
    simp [h]
set_option maxHeartbeats 4000000 in
theorem RCheck_c (w : World) (he : Env w) (l : List UInt8) (hl : l.length < 4294967281) : Calls Tryz.prog 176 #[.string (bs l)] w (RetE (rchk l) w) := by
  have hlen : (rcut l).1.length ≤ 4294967281 ∧ (rcut l).2.1.length ≤ 4294967281 := by
    cases l with
    | nil => exact ⟨by decide, by decide⟩
    | cons c r => have := rcut_le (c :: r) (by simp); omega
  have HC := Lib.hid (cut_c w he l hl)
  have H1 := Lib.hid (fun w => Check_c w (rcut l).1 (by omega))
  have H2 := Lib.hid (fun w => Check_c w (rcut l).2.1 (by omega))
  have HE := Lib.hid he
  clear hlen hl he
  unfold RetE at H1 H2 ⊢
  have o1 := chk_or (rcut l).1
  have o2 := chk_or (rcut l).2.1
  by_cases hz : chk (rcut l).1 = 0 ∧ chk (rcut l).2.1 = 0
  · obtain ⟨z1, z2⟩ := hz
    rw [z1] at H1
    rw [z2] at H2
    obtain ⟨n, e1, l1⟩ := chk_zero z1
    obtain ⟨d, e2, l2⟩ := chk_zero z2
    have hr0 : isR l → rchk l = 0 := by
      intro hP
      unfold rchk
      rw [if_neg (by rw [z1, z2]; decide), if_neg (by rw [z1, z2]; decide), if_pos hP]
    have hr3 : ¬ isR l → rchk l = 3 := by
      intro hP
      unfold rchk
      rw [if_neg (by rw [z1, z2]; decide), if_neg (by rw [z1, z2]; decide), if_neg hP]
    cases hw : (rcut l).2.2 with
    | false =>
      have e : rchk l = 0 := hr0 (rcut_plain n hw e1)
      rw [e]
      rw [hw] at HC
      clear o1 o2 z1 z2 hr0 hr3 e hw
      generalize bs (rcut l).1 = s1 at *
      generalize bs (rcut l).2.1 = s2 at *
      generalize bs l = s at *
      go_enter Tryz.func176, Tryz.ntmps176
      go_wp2_with fail
      refine HC.out.mono ?_
      rintro e w1 ⟨rfl, hg⟩
      go_wp2_with fail
      refine (H1.out _).mono ?_
      rintro e w2 ⟨rfl, hg1⟩
      go_wp2_with fail
      refine (H2.out _).mono ?_
      rintro e w3 ⟨rfl, hg2⟩
      go_wp2_with fail
      go_ret
      exact ⟨rfl, (hg.trans hg1).trans hg2⟩
    | true =>
      have hri := rcut_parts n d hw e1 e2
      have HO := Lib.hid (fun w => WCompare_c w d 1 l2 (by have := YtlmdpamehhcblaaGreatDoorD.lim_big; show 1 < _; omega))
      have HG := Lib.hid (fun w he => Gcd_c w he n d l1 l2)
      unfold RetN at HO
      unfold RetI at HG
      have bo := sign_bd (d - 1)
      obtain ⟨b1, b2⟩ := bo
      have i1 : itoa 1 = [49] := by decide +kernel
      have hone : ((bs (itoa (Nat.gcd n.natAbs d.natAbs : Nat))).toList == [49]) = decide (Nat.gcd n.natAbs d.natAbs = 1) := by
        rw [bs_toList, Bool.eq_iff_iff, beq_iff_eq, decide_eq_true_iff, ← i1]
        exact ⟨fun h => by have := YtlmdpamehhcblaaGreatDoorD.itoa_inj h; omega, fun h => by rw [h]; rfl⟩
      rw [i1] at HO
      rw [hri] at hr0 hr3
      generalize rchk l = r at *
      rw [hw] at HC
      rw [e1, e2] at HC
      rw [e1] at H1
      rw [e2] at H2
      clear hri hw l1 l2 z1 z2 o1 o2 e1 e2 i1
      generalize (d - 1).sign = so at *
      by_cases hp : so ≤ 0
      · have hr := hr3 (by omega)
        subst hr
        clear hone hr0 hr3
        generalize bs (itoa (Nat.gcd n.natAbs d.natAbs : Nat)) = sg at *
        generalize bs (itoa n) = s1 at *
        generalize bs (itoa d) = s2 at *
        generalize bs l = s at *
        go_enter Tryz.func176, Tryz.ntmps176
        go_wp2_with fail
        refine HC.out.mono ?_
        rintro e w1 ⟨rfl, hg⟩
        go_wp2_with fail
        refine (H1.out _).mono ?_
        rintro e w2 ⟨rfl, hg1⟩
        go_wp2_with fail
        refine (H2.out _).mono ?_
        rintro e w3 ⟨rfl, hg2⟩
        go_wp2_with fail
        refine (HO.out _).mono ?_
        rintro e w4 ⟨rfl, hg3⟩
        go_wp2_with fail
        refine (HG.out _ ((((HE.out.gr hg).gr hg1).gr hg2).gr hg3)).mono ?_
        rintro e w5 ⟨rfl, hg4⟩
        go_wp2_with fail
        go_ret
        exact ⟨rfl, (((hg.trans hg1).trans hg2).trans hg3).trans hg4⟩
      · have hnone : ((bs (itoa (Nat.gcd n.natAbs d.natAbs : Nat))).toList != [49]) = !decide (Nat.gcd n.natAbs d.natAbs = 1) := by rw [← hone]; rfl
        by_cases h1 : Nat.gcd n.natAbs d.natAbs = 1
        · have hr := hr0 ⟨by omega, h1⟩
          subst hr
          rw [decide_eq_true h1] at hone hnone
          clear h1 hr0 hr3
          generalize bs (itoa (Nat.gcd n.natAbs d.natAbs : Nat)) = sg at *
          generalize bs (itoa n) = s1 at *
          generalize bs (itoa d) = s2 at *
          generalize bs l = s at *
          go_enter Tryz.func176, Tryz.ntmps176
          go_wp2_with fail
          refine HC.out.mono ?_
          rintro e w1 ⟨rfl, hg⟩
          go_wp2_with fail
          refine (H1.out _).mono ?_
          rintro e w2 ⟨rfl, hg1⟩
          go_wp2_with fail
          refine (H2.out _).mono ?_
          rintro e w3 ⟨rfl, hg2⟩
          go_wp2_with fail
          refine (HO.out _).mono ?_
          rintro e w4 ⟨rfl, hg3⟩
          go_wp2_with fail
          refine (HG.out _ ((((HE.out.gr hg).gr hg1).gr hg2).gr hg3)).mono ?_
          rintro e w5 ⟨rfl, hg4⟩
          go_wp2_with fail
          go_ret
          exact ⟨rfl, (((hg.trans hg1).trans hg2).trans hg3).trans hg4⟩
        · have hr := hr3 (fun x => h1 x.2)
          subst hr
          rw [decide_eq_false h1] at hone hnone
          clear h1 hr0 hr3
          generalize bs (itoa (Nat.gcd n.natAbs d.natAbs : Nat)) = sg at *
          generalize bs (itoa n) = s1 at *
          generalize bs (itoa d) = s2 at *
          generalize bs l = s at *
          go_enter Tryz.func176, Tryz.ntmps176
          go_wp2_with fail
          refine HC.out.mono ?_
          rintro e w1 ⟨rfl, hg⟩
          go_wp2_with fail
          refine (H1.out _).mono ?_
          rintro e w2 ⟨rfl, hg1⟩
          go_wp2_with fail
          refine (H2.out _).mono ?_
          rintro e w3 ⟨rfl, hg2⟩
          go_wp2_with fail
          refine (HO.out _).mono ?_
          rintro e w4 ⟨rfl, hg3⟩
          go_wp2_with fail
          refine (HG.out _ ((((HE.out.gr hg).gr hg1).gr hg2).gr hg3)).mono ?_
          rintro e w5 ⟨rfl, hg4⟩
          go_wp2_with fail
          go_ret
          exact ⟨rfl, (((hg.trans hg1).trans hg2).trans hg3).trans hg4⟩
  · generalize hr : rchk l = r
    unfold rchk at hr
    generalize chk (rcut l).1 = c1 at *
    generalize chk (rcut l).2.1 = c2 at *
    generalize bs (rcut l).1 = s1 at *
    generalize bs (rcut l).2.1 = s2 at *
    generalize (rcut l).2.2 = ok at *
    rcases o1 with rfl | rfl | rfl <;> rcases o2 with rfl | rfl | rfl <;> first | (exact absurd ⟨rfl, rfl⟩ hz) | skip
    all_goals (
      simp at hr
      subst hr
      clear hz
      generalize bs l = s at *
      go_enter Tryz.func176, Tryz.ntmps176
      go_wp2_with fail
      refine HC.out.mono ?_
      rintro e w1 ⟨rfl, hg⟩
      go_wp2_with fail
      refine (H1.out _).mono ?_
      rintro e w2 ⟨rfl, hg1⟩
      go_wp2_with fail
      refine (H2.out _).mono ?_
      rintro e w3 ⟨rfl, hg2⟩
      go_wp2_with fail
      go_ret
      exact ⟨rfl, (hg.trans hg1).trans hg2⟩)
end Go.Proofs.YtlmdpamehhcblaaGreatDoor
