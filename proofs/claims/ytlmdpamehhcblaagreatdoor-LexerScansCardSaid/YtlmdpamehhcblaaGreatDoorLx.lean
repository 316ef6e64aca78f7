import Derived.Test.YtlmdpamehhcblaaGreatDoorLo
import Derived.Test.YtlmdpamehhcblaaGreatDoorLt
/- Contracts of the reference of the lexer: numeral, Word, Number; the law LexerWords. -/
namespace Go.Proofs.YtlmdpamehhcblaaGreatDoor
open Go.RowKit Go.Shelf
open YtlmdpamehhcblaaGreatDoorD (isDig isLet cls marks spanN wlen nlen nfront werr nerr)

theorem digits0_c (w : World) (s : List UInt8) (hs : s.length ≤ 4611686018427387904) : Calls Tryz.prog 120 #[.string (bs s), .int .i64 0] w fun e w' => e = .returned (.int .i64 (nfront s : Nat)) ∧ w' = w := by
  have := digits_c w s 0 hs (Nat.zero_le _)
  rwa [List.drop_zero] at this
set_option maxHeartbeats 2000000 in
theorem numeral_c (w : World) (s : List UInt8) (hs : s.length ≤ 4611686018427387904) : Calls Tryz.prog 119 #[.string (bs s)] w fun e w' => e = .returned (.int .i64 (nlen s : Nat)) ∧ w' = w := by
  have hsz := bs_size s
  have hle := YtlmdpamehhcblaaGreatDoorD.nfront_le s
  have HS := Lib.hid (fun w => digits0_c w s hs)
  have e : nlen s = (if nfront s = 0 ∨ s.length ≤ nfront s + 1 ∨ s.getD (nfront s) 0 ≠ 46 then nfront s else if nfront (s.drop (nfront s + 1)) = 0 then nfront s else nfront s + 1 + nfront (s.drop (nfront s + 1))) := rfl
  have HS2 := Lib.hid (fun w (h : nfront s < s.length) => digits_c w s (nfront s + 1) hs (by omega))
  have hz2 : s.length ≤ nfront s + 1 → nfront (s.drop (nfront s + 1)) = 0 := fun h => by rw [List.drop_of_length_le h]; rfl
  have hle2 : nfront (s.drop (nfront s + 1)) ≤ s.length := by
    have := YtlmdpamehhcblaaGreatDoorD.nfront_le (s.drop (nfront s + 1))
    rw [List.length_drop] at this; omega
  generalize nfront (s.drop (nfront s + 1)) = q at *
  generalize nfront s = n at *
  by_cases h1 : n = 0
  · subst h1
    rw [if_pos (.inl rfl)] at e
    rw [e]
    clear e HS2 hz2
    go_enter Tryz.func119, Tryz.ntmps119
    go_wp2_with fail
    refine (HS.out _).mono ?_
    rintro e w1 ⟨rfl, rfl⟩
    go_wp2_with fail
    go_ret
    exact ⟨rfl, rfl⟩
  · have k1 : (0 : Int) < (n : Int) := by omega
    by_cases h2 : n < s.length
    · have hz : n < (bs s).size := by omega
      have g1 := get_46 s n hz
      have HS2 := Lib.hid (fun w => HS2.out w h2)
      by_cases h3 : s.getD n 0 = 46
      · rw [decide_eq_true h3] at g1
        by_cases h4 : q = 0
        · have e' : nlen s = n := by
            rw [e]; split <;> first | rfl | (rw [if_pos h4])
          rw [e']
          subst h4
          clear e e' h3 hz2
          go_enter Tryz.func119, Tryz.ntmps119
          go_wp2_with fail
          refine (HS.out _).mono ?_
          rintro e w1 ⟨rfl, rfl⟩
          go_wp2_with fail
          refine (HS2.out _).mono ?_
          rintro e w1 ⟨rfl, rfl⟩
          go_wp2_with fail
          go_ret
          exact ⟨rfl, rfl⟩
        · have e' : nlen s = n + 1 + q := by
            rw [e, if_neg, if_neg h4]
            simp only [not_or]
            exact ⟨h1, fun x => h4 (hz2 x), fun x => x h3⟩
          rw [e']
          have hn1 : ¬ s.length ≤ n + 1 := fun x => h4 (hz2 x)
          have k4 : (0 : Int) < (q : Int) := by omega
          have hsum : n + 1 + q ≤ 9223372036854775807 := by omega
          clear e e' h3 hz2
          go_enter Tryz.func119, Tryz.ntmps119
          go_wp2_with fail
          refine (HS.out _).mono ?_
          rintro e w1 ⟨rfl, rfl⟩
          go_wp2_with fail
          refine (HS2.out _).mono ?_
          rintro e w1 ⟨rfl, rfl⟩
          go_wp2_with fail
          refine (HS2.out _).mono ?_
          rintro e w1 ⟨rfl, rfl⟩
          go_wp2_with fail
          go_ret
          exact ⟨by rw [Int.natCast_add, Int.natCast_add]; rfl, rfl⟩
      · have e' : nlen s = n := by rw [e, if_pos (.inr (.inr h3))]
        rw [e']
        rw [decide_eq_false h3] at g1
        clear e e' h3 hz2 HS2
        go_enter Tryz.func119, Tryz.ntmps119
        go_wp2_with fail
        refine (HS.out _).mono ?_
        rintro e w1 ⟨rfl, rfl⟩
        go_wp2_with fail
        go_ret
        exact ⟨rfl, rfl⟩
    · have e' : nlen s = n := by rw [e, if_pos (.inr (.inl (by omega)))]
      rw [e']
      clear e e' hz2 HS2
      go_enter Tryz.func119, Tryz.ntmps119
      go_wp2_with fail
      refine (HS.out _).mono ?_
      rintro e w1 ⟨rfl, rfl⟩
      go_wp2_with fail
      go_ret
      exact ⟨rfl, rfl⟩
set_option maxHeartbeats 1000000 in
theorem Word14_c (w : World) (s : List UInt8) (hs : s.length ≤ 4611686018427387904) : Calls Tryz.prog 47 #[.string (bs s)] w fun e w' => e = .returned (.int .i64 (werr s : Nat)) ∧ w' = w := by
  have hsz := bs_size s
  have e : werr s = (if s = [] ∨ wlen s ≠ s.length then 3 else if 24 < s.length then 17 else 0) := rfl
  by_cases h0 : s = []
  · subst h0
    rw [if_pos (.inl rfl)] at e
    rw [e]
    have hE : (bs []).toList.isEmpty = true := by rw [bs_toList]; rfl
    go_enter Tryz.func47, Tryz.ntmps47
    go_wp2_with fail
    go_ret
    exact ⟨rfl, rfl⟩
  · have hE : (bs s).toList.isEmpty = false := by rw [bs_toList]; simp [h0]
    have HW := Lib.hid (wordly_c w s hs)
    by_cases h1 : wlen s = s.length
    · rw [if_neg (by simp only [not_or]; exact ⟨h0, fun x => x h1⟩)] at e
      rw [e]
      rw [h1] at HW
      clear e h1 h0
      by_cases hL : 24 < s.length
      · rw [if_pos hL]
        go_enter Tryz.func47, Tryz.ntmps47
        go_wp2_with fail
        refine HW.out.mono ?_
        rintro e w1 ⟨rfl, rfl⟩
        go_wp2_with fail
        go_ret
        exact ⟨rfl, rfl⟩
      · rw [if_neg hL]
        go_enter Tryz.func47, Tryz.ntmps47
        go_wp2_with fail
        refine HW.out.mono ?_
        rintro e w1 ⟨rfl, rfl⟩
        go_wp2_with fail
        go_ret
        exact ⟨rfl, rfl⟩
    · rw [if_pos (.inr h1)] at e
      rw [e]
      generalize wlen s = k at *
      have h2 : ¬ ((k : Int) = s.length) := by omega
      have h2b : (((k : Nat) : Int) != (s.length : Int)) = true := bne_iff_ne.2 h2
      clear e h0
      go_enter Tryz.func47, Tryz.ntmps47
      go_wp2_with fail
      refine HW.out.mono ?_
      rintro e w1 ⟨rfl, rfl⟩
      go_wp2_with fail
      go_ret
      exact ⟨rfl, rfl⟩
set_option maxHeartbeats 2000000 in
theorem Number14_c (w : World) (s : List UInt8) (hs : s.length ≤ 4611686018427387904) : Calls Tryz.prog 49 #[.string (bs s)] w fun e w' => e = .returned (.int .i64 (nerr s : Nat)) ∧ w' = w := by
  have hsz := bs_size s
  have e : nerr s = (if nlen s = 0 ∨ nlen s ≠ s.length ∨ (1 < nfront s ∧ s.getD 0 0 = 48) then 3 else if 24 < s.length then 17 else 0) := rfl
  by_cases h0 : s = []
  · subst h0
    rw [if_pos (.inl (by decide))] at e
    rw [e]
    have hE : (bs []).toList.isEmpty = true := by rw [bs_toList]; rfl
    clear e
    go_enter Tryz.func49, Tryz.ntmps49
    go_wp2_with fail
    go_ret
    exact ⟨rfl, rfl⟩
  · have hE : (bs s).toList.isEmpty = false := by rw [bs_toList]; simp [h0]
    have hp : 0 < s.length := List.length_pos_iff.2 h0
    have HN := Lib.hid (fun w => numeral_c w s hs)
    have HD := Lib.hid (fun w => digits0_c w s hs)
    by_cases h2 : nlen s = s.length
    · have hz : 0 < (bs s).size := by omega
      have g0 := get0_48d s hz
      rw [h2] at HN
      by_cases h3 : 1 < nfront s
      · have k3 : (1 : Int) < (nfront s : Int) := by omega
        by_cases h4 : s.getD 0 0 = 48
        · rw [if_pos (.inr (.inr ⟨h3, h4⟩))] at e
          rw [e]
          rw [decide_eq_true h4] at g0
          clear e h0 h2 h4
          generalize nfront s = q at *
          go_enter Tryz.func49, Tryz.ntmps49
          go_wp2_with fail
          refine (HN.out _).mono ?_
          rintro e w1 ⟨rfl, rfl⟩
          go_wp2_with fail
          refine (HD.out _).mono ?_
          rintro e w1 ⟨rfl, rfl⟩
          go_wp2_with fail
          go_ret
          exact ⟨rfl, rfl⟩
        · rw [if_neg (by simp only [not_or]; exact ⟨by omega, fun x => x h2, fun x => h4 x.2⟩)] at e
          rw [e]
          rw [decide_eq_false h4] at g0
          clear e h0 h2 h4
          generalize nfront s = q at *
          by_cases hL : 24 < s.length
          · rw [if_pos hL]
            go_enter Tryz.func49, Tryz.ntmps49
            go_wp2_with fail
            refine (HN.out _).mono ?_
            rintro e w1 ⟨rfl, rfl⟩
            go_wp2_with fail
            refine (HD.out _).mono ?_
            rintro e w1 ⟨rfl, rfl⟩
            go_wp2_with fail
            go_ret
            exact ⟨rfl, rfl⟩
          · rw [if_neg hL]
            go_enter Tryz.func49, Tryz.ntmps49
            go_wp2_with fail
            refine (HN.out _).mono ?_
            rintro e w1 ⟨rfl, rfl⟩
            go_wp2_with fail
            refine (HD.out _).mono ?_
            rintro e w1 ⟨rfl, rfl⟩
            go_wp2_with fail
            go_ret
            exact ⟨rfl, rfl⟩
      · rw [if_neg (by simp only [not_or]; exact ⟨by omega, fun x => x h2, fun x => h3 x.1⟩)] at e
        rw [e]
        have k3 : ¬ (1 : Int) < (nfront s : Int) := by omega
        clear e h0 h2 g0
        generalize nfront s = q at *
        by_cases hL : 24 < s.length
        · rw [if_pos hL]
          go_enter Tryz.func49, Tryz.ntmps49
          go_wp2_with fail
          refine (HN.out _).mono ?_
          rintro e w1 ⟨rfl, rfl⟩
          go_wp2_with fail
          refine (HD.out _).mono ?_
          rintro e w1 ⟨rfl, rfl⟩
          go_wp2_with fail
          go_ret
          exact ⟨rfl, rfl⟩
        · rw [if_neg hL]
          go_enter Tryz.func49, Tryz.ntmps49
          go_wp2_with fail
          refine (HN.out _).mono ?_
          rintro e w1 ⟨rfl, rfl⟩
          go_wp2_with fail
          refine (HD.out _).mono ?_
          rintro e w1 ⟨rfl, rfl⟩
          go_wp2_with fail
          go_ret
          exact ⟨rfl, rfl⟩
    · rw [if_pos (.inr (.inl h2))] at e
      rw [e]
      generalize nlen s = k at *
      have h5 : ¬ ((k : Int) = s.length) := by omega
      have h5b : (((k : Nat) : Int) != (s.length : Int)) = true := bne_iff_ne.2 h5
      clear e h0
      go_enter Tryz.func49, Tryz.ntmps49
      go_wp2_with fail
      refine (HN.out _).mono ?_
      rintro e w1 ⟨rfl, rfl⟩
      go_wp2_with fail
      go_ret
      exact ⟨rfl, rfl⟩
set_option maxHeartbeats 2000000 in
theorem LWords_c (w : World) (he : Env w) (s : List UInt8) : Calls Tryz.prog 11 #[.string (bs s)] w fun e w' => e = .returned (.bool true) ∧ Gr w w' := by
  have HA := Lib.hid (fun w he => awake14_c w he)
  have HE := Lib.hid he
  have hsz := bs_size s
  clear he
  by_cases h : 200 < s.length
  · have h2 : 200 < (bs s).size := by omega
    generalize bs s = S at *
    clear hsz h
    go_enter Tryz.func11, Tryz.ntmps11
    go_wp2_with fail
    refine (HA.out _ HE.out).mono ?_
    rintro e w1 ⟨rfl, hg⟩
    go_wp2_with fail
    go_ret
    exact ⟨rfl, hg⟩
  · have h2 : ¬ 200 < (bs s).size := by omega
    have W1 := Lib.hid (fun w => LWord_c w s (by omega))
    have W2 := Lib.hid (fun w => Word14_c w s (by omega))
    have N1 := Lib.hid (fun w => LNumber_c w s (by omega))
    have N2 := Lib.hid (fun w => Number14_c w s (by omega))
    generalize werr s = a at *
    generalize nerr s = b at *
    generalize bs s = S at *
    clear hsz h
    go_enter Tryz.func11, Tryz.ntmps11
    go_wp2_with fail
    refine (W1.out _).mono ?_
    rintro e w1 ⟨rfl, hg1⟩
    go_wp2_with fail
    refine (W2.out _).mono ?_
    rintro e w2 ⟨rfl, rfl⟩
    go_wp2_with fail
    refine (N1.out _).mono ?_
    rintro e w3 ⟨rfl, hg3⟩
    have G3 := hg1.trans hg3
    clear hg1 hg3
    go_wp2_with fail
    refine (N2.out _).mono ?_
    rintro e w4 ⟨rfl, rfl⟩
    go_wp2_with fail
    refine (HA.out _ (HE.out.gr G3)).mono ?_
    rintro e w5 ⟨rfl, hg5⟩
    go_wp2_with fail
    go_ret
    exact ⟨by simp, G3.trans hg5⟩
end Go.Proofs.YtlmdpamehhcblaaGreatDoor
