import Derived.Test.YtlmdpamehhcblaaGreatDoorWi
import Derived.Test.YtlmdpamehhcblaaGreatDoorUp
/- Contracts of package units: pointed. -/
namespace Go.Proofs.YtlmdpamehhcblaaGreatDoor
open Go.RowKit
open Go.Lib (itoa decDigits)
open YtlmdpamehhcblaaGreatDoorD (upad urest upointed)

set_option maxHeartbeats 2000000 in
theorem pointed_c (w : World) (he : Env w) (n p : Nat) (hn : n ≤ 1000000) (hp : p ≤ 4) :
    Calls Tryz.prog 88 #[.int .i64 n, .int .i64 p] w fun e w' => e = .returned (.string (bs (upointed n p))) ∧ Gr w w' := by
  have HI := Lib.hid (fun w he => Itoa_nat w he n (by omega))
  have hl := YtlmdpamehhcblaaGreatDoorD.decDigits_len7 hn
  obtain ⟨l1, l2⟩ := YtlmdpamehhcblaaGreatDoorD.upad_len hn hp
  have l3 := YtlmdpamehhcblaaGreatDoorD.urest_len hn hp
  have hsz := bs_size (decDigits n)
  have HR := Lib.hid (fun w => Repeat_c w [48] (p + 1 - (decDigits n).length) (by simp; omega) (by omega))
  rw [YtlmdpamehhcblaaGreatDoorD.repeat_zeros] at HR
  have hT := fun w => TrimRight_c w ((upad n p).drop ((upad n p).length - p)) [48] (by rw [List.length_drop]; omega) (by decide) (by decide)
  have eT : Lib.trimRightS ((upad n p).drop ((upad n p).length - p)) [48] = urest n p := rfl
  rw [eT] at hT
  have hd : bs ((upad n p).drop ((upad n p).length - p)) = (bs (upad n p)).extract ((upad n p).length - p) (upad n p).length := by
    rw [bs_extract, List.take_of_length_le (by rw [List.length_drop]; omega)]
  rw [hd] at hT
  have HT := Lib.hid hT
  have htk : bs ((upad n p).take ((upad n p).length - p)) = (bs (upad n p)).extract 0 ((upad n p).length - p) := by
    rw [bs_extract]; simp
  have htsz := bs_size (upad n p)
  have hrsz := bs_size (urest n p)
  have hisnil : (bs (urest n p)).toList.isEmpty = decide (urest n p = []) := by
    rw [bs_toList]; cases urest n p <;> simp
  have hres : bs (upointed n p) = if urest n p = [] then (bs (upad n p)).extract 0 ((upad n p).length - p) else (bs (upad n p)).extract 0 ((upad n p).length - p) ++ { data := #[46] } ++ bs (urest n p) := by
    unfold YtlmdpamehhcblaaGreatDoorD.upointed
    split
    · exact htk
    · rw [← htk]
      show _ = _ ++ bs [46] ++ _
      rw [bs_append, bs_append]; simp
  rw [hres]
  have hpadE : bs (upad n p) = if (decDigits n).length ≤ p then bs (List.replicate (p + 1 - (decDigits n).length) 48) ++ bs (decDigits n) else bs (decDigits n) := by
    unfold YtlmdpamehhcblaaGreatDoorD.upad
    split
    · rw [bs_append]
    · rfl
  have hrep : (bs (List.replicate (p + 1 - (decDigits n).length) (48 : UInt8))).size = p + 1 - (decDigits n).length := by rw [bs_size, List.length_replicate]
  have hex : ((bs (upad n p)).extract 0 ((upad n p).length - p)).size ≤ 7 := by rw [← htk, bs_size, List.length_take]; omega
  clear hres htk hd hT eT
  have HE := Lib.hid he
  generalize hL : (upad n p).length = L at *
  have hdl : (decDigits n).length ≤ p ∨ ¬ (decDigits n).length ≤ p := Decidable.em _
  have hKc : (L : Int) - (p : Int) = ((L - p : Nat) : Int) := by omega
  have hKl : L - p ≤ L := by omega
  generalize hK : L - p = K at *
  by_cases hnil : urest n p = []
  · rw [if_pos hnil]
    rw [decide_eq_true hnil] at hisnil
    generalize bs (urest n p) = rest at *
    clear hnil hL
    rcases hdl with h | h
    · rw [if_pos h] at hpadE
      have hcast : (p : Int) + 1 - ((decDigits n).length : Int) = ((p + 1 - (decDigits n).length : Nat) : Int) := by omega
      generalize bs (List.replicate (p + 1 - (decDigits n).length) 48) = z at *
      rw [hpadE] at HT htsz hex ⊢
      clear hpadE
      generalize bs (decDigits n) = s at *
      generalize (decDigits n).length = D at *
      generalize hR : p + 1 - D = R at *
      go_enter Tryz.func88, Tryz.ntmps88
      go_wp2_with fail
      refine (HI.out _ HE.out).mono ?_
      rintro e w1 ⟨rfl, hg1⟩
      go_wp2_with fail
      refine (HR.out _).mono ?_
      rintro e w2 ⟨rfl, hg2⟩
      go_wp2_with fail
      refine (HT.out _).mono ?_
      rintro e w3 ⟨rfl, hg3⟩
      go_wp2_with fail
      go_ret
      exact ⟨rfl, (hg1.trans hg2).trans hg3⟩
    · rw [if_neg h] at hpadE
      rw [hpadE] at HT htsz hex ⊢
      clear hpadE HR hrep
      generalize bs (decDigits n) = s at *
      generalize (decDigits n).length = D at *
      have hDL : D = L := by omega
      subst hDL
      go_enter Tryz.func88, Tryz.ntmps88
      go_wp2_with fail
      refine (HI.out _ HE.out).mono ?_
      rintro e w1 ⟨rfl, hg1⟩
      go_wp2_with fail
      refine (HT.out _).mono ?_
      rintro e w3 ⟨rfl, hg3⟩
      go_wp2_with fail
      go_ret
      exact ⟨rfl, hg1.trans hg3⟩
  · rw [if_neg hnil]
    rw [decide_eq_false hnil] at hisnil
    generalize bs (urest n p) = rest at *
    clear hnil hL
    rcases hdl with h | h
    · rw [if_pos h] at hpadE
      have hcast : (p : Int) + 1 - ((decDigits n).length : Int) = ((p + 1 - (decDigits n).length : Nat) : Int) := by omega
      generalize bs (List.replicate (p + 1 - (decDigits n).length) 48) = z at *
      rw [hpadE] at HT htsz hex ⊢
      clear hpadE
      generalize bs (decDigits n) = s at *
      generalize (decDigits n).length = D at *
      generalize hR : p + 1 - D = R at *
      go_enter Tryz.func88, Tryz.ntmps88
      go_wp2_with fail
      refine (HI.out _ HE.out).mono ?_
      rintro e w1 ⟨rfl, hg1⟩
      go_wp2_with fail
      refine (HR.out _).mono ?_
      rintro e w2 ⟨rfl, hg2⟩
      go_wp2_with fail
      refine (HT.out _).mono ?_
      rintro e w3 ⟨rfl, hg3⟩
      go_wp2_with fail
      go_ret
      exact ⟨rfl, (hg1.trans hg2).trans hg3⟩
    · rw [if_neg h] at hpadE
      rw [hpadE] at HT htsz hex ⊢
      clear hpadE HR hrep
      generalize bs (decDigits n) = s at *
      generalize (decDigits n).length = D at *
      have hDL : D = L := by omega
      subst hDL
      go_enter Tryz.func88, Tryz.ntmps88
      go_wp2_with fail
      refine (HI.out _ HE.out).mono ?_
      rintro e w1 ⟨rfl, hg1⟩
      go_wp2_with fail
      refine (HT.out _).mono ?_
      rintro e w3 ⟨rfl, hg3⟩
      go_wp2_with fail
      go_ret
      exact ⟨rfl, hg1.trans hg3⟩
end Go.Proofs.YtlmdpamehhcblaaGreatDoor
