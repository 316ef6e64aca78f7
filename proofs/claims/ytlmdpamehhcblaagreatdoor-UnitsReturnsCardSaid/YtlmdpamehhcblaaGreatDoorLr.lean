import Derived.Test.YtlmdpamehhcblaaGreatDoorAw
import Derived.Test.YtlmdpamehhcblaaGreatDoorUr
/- UnitsReturns: the walk. -/
namespace Go.Proofs.YtlmdpamehhcblaaGreatDoor
open Go.RowKit
open Go.Lib (itoa decDigits)
open YtlmdpamehhcblaaGreatDoorD (rtext uexact uparse uformat usum uword ubody)

set_option maxHeartbeats 2000000 in
theorem returns_far (w : World) (he : Env w) (um v : Int) (h : um < -100000 ∨ 100000 < um) : Calls Tryz.prog 10 #[.int .i64 um, .int .u8 v] w fun e w' => e = .returned (.bool true) ∧ Gr w w' := by
  have HA := Lib.hid (awake13_c w he)
  rcases h with h | h
  · go_enter Tryz.func10, Tryz.ntmps10
    go_wp2_with fail
    refine HA.out.mono ?_
    rintro e w1 ⟨rfl, hg⟩
    go_wp2_with fail
    go_ret
    exact ⟨rfl, hg⟩
  · have h2 : ¬ um < -100000 := by omega
    go_enter Tryz.func10, Tryz.ntmps10
    go_wp2_with fail
    refine HA.out.mono ?_
    rintro e w1 ⟨rfl, hg⟩
    go_wp2_with fail
    go_ret
    exact ⟨rfl, hg⟩
set_option maxHeartbeats 4000000 in
set_option maxRecDepth 20000 in
theorem returns_pos (w : World) (he : Env w) (um v : Int) (u : Nat) (S W : ByteArray) (hum : 0 < um) (hmx : um ≤ 100000) (hv : v.tmod 5 = u) (hv0 : 0 ≤ v) (hv1 : v ≤ 255) (hW : W.size ≤ 100) (hS : S.size ≤ 100)
    (hF : ∀ w, Env w → Calls Tryz.prog 29 #[.int .i64 um, .int .i64 u] w fun e w' => e = .returned (.tuple #[.string S, .int .i64 0]) ∧ Gr w w')
    (hP : ∀ w, Env w → Calls Tryz.prog 23 #[.string S] w fun e w' => e = .returned (.tuple #[.int .i64 um, .int .i64 0]) ∧ Gr w w')
    (hT : ∀ w, Env w → Calls Tryz.prog 29 #[.int .i64 (-um), .int .i64 u] w fun e w' => e = .returned (.tuple #[.string ({ data := #[45] } ++ S), .int .i64 0]) ∧ Gr w w')
    (hWo : ∀ w, Calls Tryz.prog 27 #[.int .i64 u] w fun e w' => e = .returned (.tuple #[.string W, .int .i64 0]) ∧ Gr w w')
    (hX : ∀ w, Calls Tryz.prog 44 #[.string S, .string ({ data := #[32] } ++ W)] w fun e w' => e = .returned (.bool true) ∧ w' = w) :
    Calls Tryz.prog 10 #[.int .i64 um, .int .u8 v] w fun e w' => e = .returned (.bool true) ∧ Gr w w' := by
  have HA := Lib.hid (fun w he => awake13_c w he)
  have HE := Lib.hid he
  have HF := Lib.hid hF; have HP := Lib.hid hP; have HT := Lib.hid hT; have HW := Lib.hid hWo; have HX := Lib.hid hX
  clear he hF hP hT hWo hX
  go_enter Tryz.func10, Tryz.ntmps10
  go_wp2_with fail
  refine (HF.out _ HE.out).mono ?_
  rintro e w1 ⟨rfl, hg1⟩
  go_wp2_with fail
  refine (HP.out _ (HE.out.gr hg1)).mono ?_
  rintro e w2 ⟨rfl, hg2⟩
  have G2 := hg1.trans hg2
  clear hg1 hg2
  go_wp2_with fail
  refine (HT.out _ (HE.out.gr G2)).mono ?_
  rintro e w3 ⟨rfl, hg3⟩
  have G3 := G2.trans hg3
  clear G2 hg3
  go_wp2_with fail
  refine (HW.out _).mono ?_
  rintro e w4 ⟨rfl, hg4⟩
  have G4 := G3.trans hg4
  clear G3 hg4
  go_wp2_with fail
  refine (HX.out _).mono ?_
  rintro e w5 ⟨rfl, rfl⟩
  go_wp2_with fail
  refine (HA.out _ (HE.out.gr G4)).mono ?_
  rintro e w6 ⟨rfl, hg6⟩
  go_wp2_with fail
  go_ret
  exact ⟨rfl, G4.trans hg6⟩
set_option maxHeartbeats 4000000 in
set_option maxRecDepth 20000 in
theorem returns_neg (w : World) (he : Env w) (um v : Int) (u : Nat) (T W : ByteArray) (hum : um < 0) (hmx : -100000 ≤ um) (hv : v.tmod 5 = u) (hv0 : 0 ≤ v) (hv1 : v ≤ 255) (hW : W.size ≤ 100) (hS : T.size ≤ 100)
    (hF : ∀ w, Env w → Calls Tryz.prog 29 #[.int .i64 um, .int .i64 u] w fun e w' => e = .returned (.tuple #[.string ({ data := #[45] } ++ T), .int .i64 0]) ∧ Gr w w')
    (hP : ∀ w, Env w → Calls Tryz.prog 23 #[.string ({ data := #[45] } ++ T)] w fun e w' => e = .returned (.tuple #[.int .i64 um, .int .i64 0]) ∧ Gr w w')
    (hT : ∀ w, Env w → Calls Tryz.prog 29 #[.int .i64 (-um), .int .i64 u] w fun e w' => e = .returned (.tuple #[.string T, .int .i64 0]) ∧ Gr w w')
    (hWo : ∀ w, Calls Tryz.prog 27 #[.int .i64 u] w fun e w' => e = .returned (.tuple #[.string W, .int .i64 0]) ∧ Gr w w')
    (hX : ∀ w, Calls Tryz.prog 44 #[.string ({ data := #[45] } ++ T), .string ({ data := #[32] } ++ W)] w fun e w' => e = .returned (.bool true) ∧ w' = w) :
    Calls Tryz.prog 10 #[.int .i64 um, .int .u8 v] w fun e w' => e = .returned (.bool true) ∧ Gr w w' := by
  have HA := Lib.hid (fun w he => awake13_c w he)
  have HE := Lib.hid he
  have HF := Lib.hid hF; have HP := Lib.hid hP; have HT := Lib.hid hT; have HW := Lib.hid hWo; have HX := Lib.hid hX
  clear he hF hP hT hWo hX
  go_enter Tryz.func10, Tryz.ntmps10
  go_wp2_with fail
  refine (HF.out _ HE.out).mono ?_
  rintro e w1 ⟨rfl, hg1⟩
  go_wp2_with fail
  refine (HP.out _ (HE.out.gr hg1)).mono ?_
  rintro e w2 ⟨rfl, hg2⟩
  have G2 := hg1.trans hg2
  clear hg1 hg2
  go_wp2_with fail
  refine (HT.out _ (HE.out.gr G2)).mono ?_
  rintro e w3 ⟨rfl, hg3⟩
  have G3 := G2.trans hg3
  clear G2 hg3
  go_wp2_with fail
  refine (HW.out _).mono ?_
  rintro e w4 ⟨rfl, hg4⟩
  have G4 := G3.trans hg4
  clear G3 hg4
  go_wp2_with fail
  refine (HX.out _).mono ?_
  rintro e w5 ⟨rfl, rfl⟩
  go_wp2_with fail
  refine (HA.out _ (HE.out.gr G4)).mono ?_
  rintro e w6 ⟨rfl, hg6⟩
  go_wp2_with fail
  go_ret
  exact ⟨rfl, G4.trans hg6⟩
set_option maxHeartbeats 4000000 in
set_option maxRecDepth 20000 in
theorem returns_zero (w : World) (he : Env w) (v : Int) (u : Nat) (S W : ByteArray) (hv : v.tmod 5 = u) (hv0 : 0 ≤ v) (hv1 : v ≤ 255) (hW : W.size ≤ 100) 
    (hF : ∀ w, Env w → Calls Tryz.prog 29 #[.int .i64 0, .int .i64 u] w fun e w' => e = .returned (.tuple #[.string S, .int .i64 0]) ∧ Gr w w')
    (hP : ∀ w, Env w → Calls Tryz.prog 23 #[.string S] w fun e w' => e = .returned (.tuple #[.int .i64 0, .int .i64 0]) ∧ Gr w w')
    (hT : ∀ w, Env w → Calls Tryz.prog 29 #[.int .i64 0, .int .i64 u] w fun e w' => e = .returned (.tuple #[.string S, .int .i64 0]) ∧ Gr w w')
    (hWo : ∀ w, Calls Tryz.prog 27 #[.int .i64 u] w fun e w' => e = .returned (.tuple #[.string W, .int .i64 0]) ∧ Gr w w')
    (hX : ∀ w, Calls Tryz.prog 44 #[.string S, .string ({ data := #[32] } ++ W)] w fun e w' => e = .returned (.bool true) ∧ w' = w) :
    Calls Tryz.prog 10 #[.int .i64 0, .int .u8 v] w fun e w' => e = .returned (.bool true) ∧ Gr w w' := by
  have HA := Lib.hid (fun w he => awake13_c w he)
  have HE := Lib.hid he
  have HF := Lib.hid hF; have HP := Lib.hid hP; have HT := Lib.hid hT; have HW := Lib.hid hWo; have HX := Lib.hid hX
  clear he hF hP hT hWo hX
  go_enter Tryz.func10, Tryz.ntmps10
  go_wp2_with fail
  refine (HF.out _ HE.out).mono ?_
  rintro e w1 ⟨rfl, hg1⟩
  go_wp2_with fail
  refine (HP.out _ (HE.out.gr hg1)).mono ?_
  rintro e w2 ⟨rfl, hg2⟩
  have G2 := hg1.trans hg2
  clear hg1 hg2
  go_wp2_with fail
  refine (HT.out _ (HE.out.gr G2)).mono ?_
  rintro e w3 ⟨rfl, hg3⟩
  have G3 := G2.trans hg3
  clear G2 hg3
  go_wp2_with fail
  refine (HW.out _).mono ?_
  rintro e w4 ⟨rfl, hg4⟩
  have G4 := G3.trans hg4
  clear G3 hg4
  go_wp2_with fail
  refine (HX.out _).mono ?_
  rintro e w5 ⟨rfl, rfl⟩
  go_wp2_with fail
  refine (HA.out _ (HE.out.gr G4)).mono ?_
  rintro e w6 ⟨rfl, hg6⟩
  go_wp2_with fail
  go_ret
  exact ⟨rfl, G4.trans hg6⟩
/-- The text that units.Format answers. -/
def fmtL (um : Int) (u : Nat) : List UInt8 := (if um < 0 then [45] else []) ++ ubody um.natAbs u ++ 32 :: uword u
theorem uformat_ok {um : Int} {u : Nat} (h0 : -100000 ≤ um) (h1 : um ≤ 100000) (hu : u < 5) : uformat um (u : Nat) = .ok (fmtL um u) := by
  unfold YtlmdpamehhcblaaGreatDoorD.uformat fmtL
  rw [if_neg (by omega), if_pos (by omega)]
  rfl
theorem fmtL_len {um : Int} {u : Nat} (h0 : -100000 ≤ um) (h1 : um ≤ 100000) (hu : u < 5) : (fmtL um u).length ≤ 30 := by
  have a := YtlmdpamehhcblaaGreatDoorD.ubody_len (m := um.natAbs) (u := u) (by omega) hu
  have b := uword_len u
  unfold fmtL
  rw [List.length_append, List.length_append, List.length_cons]
  split
  · simp; omega
  · simp; omega
theorem fmtL_parse {um : Int} {u : Nat} (h0 : -100000 ≤ um) (h1 : um ≤ 100000) (hu : u < 5) : uparse (fmtL um u) = .ok um :=
  YtlmdpamehhcblaaGreatDoorD.uparse_written h0 h1 hu _ (by
    by_cases h : um < 0
    · right; rw [if_pos h]; exact ⟨h, rfl⟩
    · left; rw [if_neg h]; exact ⟨by omega, rfl⟩) (by have := fmtL_len h0 h1 hu; unfold fmtL at this; omega)
theorem fmtL_suffix (um : Int) (u : Nat) : Lib.hasSuffix (fmtL um u) (32 :: uword u) = true := by
  unfold fmtL Lib.hasSuffix
  rw [List.isSuffixOf_iff_suffix]
  exact List.suffix_append _ _
theorem Returns_c (w : World) (he : Env w) (um v : Int) (hv0 : 0 ≤ v) (hv1 : v ≤ 255) : Calls Tryz.prog 10 #[.int .i64 um, .int .u8 v] w fun e w' => e = .returned (.bool true) ∧ Gr w w' := by
  by_cases hf : um < -100000 ∨ 100000 < um
  · exact returns_far w he um v hf
  · have h0 : -100000 ≤ um := by omega
    have h1 : um ≤ 100000 := by omega
    obtain ⟨u, hu, hu5⟩ : ∃ u : Nat, v.tmod 5 = u ∧ u < 5 := by
      rw [Int.tmod_eq_emod_of_nonneg hv0]
      exact ⟨(v % 5).toNat, by omega, by omega⟩
    have F : ∀ n : Int, -100000 ≤ n → n ≤ 100000 → ∀ w, Env w → Calls Tryz.prog 29 #[.int .i64 n, .int .i64 u] w fun e w' => e = .returned (.tuple #[.string (bs (fmtL n u)), .int .i64 0]) ∧ Gr w w' := fun n a b w he => by
      have := Format_c w he n u
      rw [uformat_ok a b hu5] at this
      exact this
    have P : ∀ n : Int, -100000 ≤ n → n ≤ 100000 → ∀ w, Env w → Calls Tryz.prog 23 #[.string (bs (fmtL n u))] w fun e w' => e = .returned (.tuple #[.int .i64 n, .int .i64 0]) ∧ Gr w w' := fun n a b w he => by
      have := Parse_c w he (fmtL n u) (by have := fmtL_len a b hu5; omega)
      rw [fmtL_parse a b hu5] at this
      exact this
    have Wo : ∀ w, Calls Tryz.prog 27 #[.int .i64 u] w fun e w' => e = .returned (.tuple #[.string (bs (uword u)), .int .i64 0]) ∧ Gr w w' := fun w => by
      have := Word_c w (u : Int)
      rw [if_pos (by omega)] at this
      exact this
    have X : ∀ n : Int, -100000 ≤ n → n ≤ 100000 → ∀ w, Calls Tryz.prog 44 #[.string (bs (fmtL n u)), .string ({ data := #[32] } ++ bs (uword u))] w fun e w' => e = .returned (.bool true) ∧ w' = w := fun n a b w => by
      have := HasSuffix_c w (fmtL n u) (32 :: uword u) (by have := fmtL_len a b hu5; omega)
      rw [fmtL_suffix] at this
      have e : bs (32 :: uword u) = { data := #[32] } ++ bs (uword u) := by show _ = bs [32] ++ _; rw [bs_append]; rfl
      rw [e] at this
      exact this
    have lw : (bs (uword u)).size ≤ 100 := by rw [bs_size]; have := uword_len u; omega
    have ls : ∀ n : Int, -100000 ≤ n → n ≤ 100000 → (bs (fmtL n u)).size ≤ 100 := fun n a b => by rw [bs_size]; have := fmtL_len a b hu5; omega
    rcases Int.lt_trichotomy um 0 with h | h | h
    · have e : bs (fmtL um u) = { data := #[45] } ++ bs (fmtL (-um) u) := by
        show _ = bs [45] ++ _
        rw [bs_append]
        unfold fmtL
        rw [if_pos h, if_neg (by omega), Int.natAbs_neg]; rfl
      refine returns_neg w he um v u (bs (fmtL (-um) u)) _ h h0 hu hv0 hv1 lw (ls _ (by omega) (by omega)) ?_ ?_ (F _ (by omega) (by omega)) Wo ?_
      · rw [← e]; exact F um h0 h1
      · rw [← e]; exact P um h0 h1
      · rw [← e]; exact X um h0 h1
    · subst h
      exact returns_zero w he v u _ _ hu hv0 hv1 lw (F 0 (by omega) (by omega)) (P 0 (by omega) (by omega)) (F 0 (by omega) (by omega)) Wo (X 0 (by omega) (by omega))
    · have e : bs (fmtL (-um) u) = { data := #[45] } ++ bs (fmtL um u) := by
        show _ = bs [45] ++ _
        rw [bs_append]
        unfold fmtL
        rw [if_pos (by omega), if_neg (by omega), Int.natAbs_neg]; rfl
      refine returns_pos w he um v u (bs (fmtL um u)) _ h h1 hu hv0 hv1 lw (ls _ h0 h1) (F um h0 h1) (P um h0 h1) ?_ Wo (X um h0 h1)
      rw [← e]; exact F _ (by omega) (by omega)
end Go.Proofs.YtlmdpamehhcblaaGreatDoor
