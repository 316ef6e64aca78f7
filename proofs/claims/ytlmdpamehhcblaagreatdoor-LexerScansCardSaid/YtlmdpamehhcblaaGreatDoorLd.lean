import Derived.Test.YtlmdpamehhcblaaGreatDoorWg
import Derived.Test.YtlmdpamehhcblaaGreatDoorLc
/- Contracts of the lexer: number, Word, Number. -/
namespace Go.Proofs.YtlmdpamehhcblaaGreatDoor
open Go.RowKit Go.Shelf
open YtlmdpamehhcblaaGreatDoorD (isDig isLet cls marks spanN wlen nlen nfront werr nerr)

theorem bs_drop (s : List UInt8) (n : Nat) : (bs s).extract n s.length = bs (s.drop n) := by
  rw [bs_extract, List.take_of_length_le (by rw [List.length_drop]; omega)]
theorem bs_take (s : List UInt8) (n : Nat) : (bs s).extract 0 n = bs (s.take n) := by
  rw [bs_extract]; rfl
theorem get_46 (s : List UInt8) (j : Nat) (hj : j < (bs s).size) : ((((bs s)[j]'hj).toNat : Int) == 46) = decide (s.getD j 0 = 46) := by
  have hj2 : j < s.length := by rw [bs_size] at hj; exact hj
  rw [List.getD_eq_getElem?_getD, List.getElem?_eq_getElem hj2, Bool.eq_iff_iff, beq_iff_eq, decide_eq_true_iff]
  show (((s[j]).toNat : Int) = 46) ↔ s[j] = 46
  constructor
  · intro hc
    have : (s[j]).toNat = (46 : UInt8).toNat := by simp; omega
    exact UInt8.toNat_inj.1 this
  · intro hc; rw [hc]; rfl
theorem span1_c (w : World) (s : List UInt8) (hs : s.length ≤ 4611686018427387904) : Calls Tryz.prog 193 #[.string (bs s), .slice (some ⟨w.heap.size, 0, none⟩) 1 1] (w.alloc (.cells #[.int .i64 2] 3)) fun e w' => e = .returned (.int .i64 (nfront s : Nat)) ∧ Gr w w' :=
  (length_c (w.alloc (.cells #[.int .i64 2] 3)) w.heap.size 1 [2] s hs (by decide) (news_nats w [2] 3) (by simp)).mono fun _ _ h => ⟨h.1, ((Gr.refl _).alloc _).trans h.2⟩
set_option maxHeartbeats 1000000 in
theorem number_c (w : World) (s : List UInt8) (hs : s.length ≤ 4611686018427387904) : Calls Tryz.prog 118 #[.string (bs s)] w fun e w' => e = .returned (.tuple #[.int .i64 (nlen s : Nat), .int .i64 (nfront s : Nat)]) ∧ Gr w w' := by
  have hsz := bs_size s
  have hle := YtlmdpamehhcblaaGreatDoorD.nfront_le s
  have HS := Lib.hid (fun w => span1_c w s hs)
  have e : nlen s = (if nfront s = 0 ∨ s.length ≤ nfront s + 1 ∨ s.getD (nfront s) 0 ≠ 46 then nfront s else if nfront (s.drop (nfront s + 1)) = 0 then nfront s else nfront s + 1 + nfront (s.drop (nfront s + 1))) := rfl
  generalize nfront s = n at *
  by_cases h1 : n = 0
  · subst h1
    rw [if_pos (.inl rfl)] at e
    rw [e]
    clear e
    go_enter Tryz.func118, Tryz.ntmps118
    go_wp2_with fail
    refine (HS.out _).mono ?_
    rintro e w1 ⟨rfl, hg1⟩
    go_wp2_with fail
    go_ret2
    exact ⟨rfl, hg1⟩
  · have k1 : ((n : Int) == 0) = false := by simp [h1]
    have k2 : ¬ ((n : Int) = 0) := by omega
    by_cases h2 : s.length ≤ n + 1
    · rw [if_pos (.inr (.inl h2))] at e
      rw [e]
      clear e
      go_enter Tryz.func118, Tryz.ntmps118
      go_wp2_with fail
      refine (HS.out _).mono ?_
      rintro e w1 ⟨rfl, hg1⟩
      go_wp2_with fail
      go_ret2
      exact ⟨rfl, hg1⟩
    · have hz : n < (bs s).size := by omega
      have g1 := get_46 s n hz
      have g2 : ((((bs s)[n]'hz).toNat : Int) != 46) = !decide (s.getD n 0 = 46) := by unfold bne; rw [g1]
      by_cases h3 : s.getD n 0 = 46
      · rw [if_neg (by simp only [not_or]; exact ⟨h1, h2, fun x => x h3⟩)] at e
        rw [decide_eq_true h3] at g1 g2
        simp only [Bool.not_true] at g2
        have hd := bs_drop s (n + 1)
        have HS2 := Lib.hid (fun w => span1_c w (s.drop (n + 1)) (by rw [List.length_drop]; omega))
        have hle2 := YtlmdpamehhcblaaGreatDoorD.nfront_le (s.drop (n + 1))
        rw [List.length_drop] at hle2
        generalize nfront (s.drop (n + 1)) = q at *
        by_cases h4 : q = 0
        · rw [if_pos h4] at e
          rw [e]
          subst h4
          clear e h3
          go_enter Tryz.func118, Tryz.ntmps118
          go_wp2_with fail
          refine (HS.out _).mono ?_
          rintro e w1 ⟨rfl, hg1⟩
          go_wp2_with fail
          refine (HS2.out _).mono ?_
          rintro e w2 ⟨rfl, hg2⟩
          go_wp2_with fail
          go_ret2
          exact ⟨rfl, hg1.trans hg2⟩
        · rw [if_neg h4] at e
          rw [e]
          clear e h3
          go_enter Tryz.func118, Tryz.ntmps118
          go_wp2_with fail
          refine (HS.out _).mono ?_
          rintro e w1 ⟨rfl, hg1⟩
          go_wp2_with fail
          refine (HS2.out _).mono ?_
          rintro e w2 ⟨rfl, hg2⟩
          go_wp2_with fail
          go_ret2
          refine ⟨?_, hg1.trans hg2⟩
          rw [Int.natCast_add, Int.natCast_add]; rfl
      · rw [if_pos (.inr (.inr h3))] at e
        rw [decide_eq_false h3] at g1 g2
        simp only [Bool.not_false] at g2
        rw [e]
        clear e h3
        go_enter Tryz.func118, Tryz.ntmps118
        go_wp2_with fail
        refine (HS.out _).mono ?_
        rintro e w1 ⟨rfl, hg1⟩
        go_wp2_with fail
        go_ret2
        exact ⟨rfl, hg1⟩
set_option maxHeartbeats 1000000 in
theorem long_c (w : World) (n : Nat) (hn : n ≤ 4611686018427387904) : Calls Tryz.prog 116 #[.int .i64 n] w fun e w' => e = .returned (.int .i64 (if 24 < n then 17 else 0 : Nat)) ∧ w' = w := by
  by_cases h : 24 < n
  · rw [if_pos h]
    go_enter Tryz.func116, Tryz.ntmps116
    go_wp2_with fail
    go_ret
    exact ⟨rfl, rfl⟩
  · rw [if_neg h]
    go_enter Tryz.func116, Tryz.ntmps116
    go_wp2_with fail
    go_ret
    exact ⟨rfl, rfl⟩
set_option maxHeartbeats 1000000 in
theorem LWord_c (w : World) (s : List UInt8) (hs : s.length ≤ 4611686018427387904) : Calls Tryz.prog 46 #[.string (bs s)] w fun e w' => e = .returned (.int .i64 (werr s : Nat)) ∧ Gr w w' := by
  have hsz := bs_size s
  have e : werr s = (if s = [] ∨ wlen s ≠ s.length then 3 else if 24 < s.length then 17 else 0) := rfl
  by_cases h0 : s = []
  · subst h0
    rw [if_pos (.inl rfl)] at e
    rw [e]
    have hE : (bs []).toList.isEmpty = true := by rw [bs_toList]; rfl
    go_enter Tryz.func46, Tryz.ntmps46
    go_wp2_with fail
    go_ret
    exact ⟨rfl, Gr.refl w⟩
  · have hE : (bs s).toList.isEmpty = false := by rw [bs_toList]; simp [h0]
    have HW := Lib.hid (word_c w s hs)
    have HL := Lib.hid (fun w => long_c w s.length hs)
    by_cases h1 : wlen s = s.length
    · rw [if_neg (by simp only [not_or]; exact ⟨h0, fun x => x h1⟩)] at e
      rw [e]
      rw [h1] at HW
      generalize (if 24 < s.length then 17 else 0) = r at *
      clear e h1 h0
      go_enter Tryz.func46, Tryz.ntmps46
      go_wp2_with fail
      refine HW.out.mono ?_
      rintro e w1 ⟨rfl, hg1⟩
      go_wp2_with fail
      refine (HL.out _).mono ?_
      rintro e w2 ⟨rfl, rfl⟩
      go_wp2_with fail
      go_ret
      exact ⟨rfl, hg1⟩
    · rw [if_pos (.inr h1)] at e
      rw [e]
      generalize wlen s = k at *
      have h2 : ¬ ((k : Int) = s.length) := by omega
      clear e h0 HL
      go_enter Tryz.func46, Tryz.ntmps46
      go_wp2_with fail
      refine HW.out.mono ?_
      rintro e w1 ⟨rfl, hg1⟩
      go_wp2_with fail
      go_ret
      exact ⟨rfl, hg1⟩
theorem get0_48d (s : List UInt8) (hz : 0 < (bs s).size) : ((((bs s)[0]'hz).toNat : Int) == 48) = decide (s.getD 0 0 = 48) := by
  rw [get0_48 s hz]
  cases s with
  | nil => simp [bs_size] at hz
  | cons c r => rw [List.head?_cons, List.getD_cons_zero, Bool.eq_iff_iff, beq_iff_eq, decide_eq_true_iff, Option.some.injEq]
set_option maxHeartbeats 1000000 in
theorem LNumber_c (w : World) (s : List UInt8) (hs : s.length ≤ 4611686018427387904) : Calls Tryz.prog 48 #[.string (bs s)] w fun e w' => e = .returned (.int .i64 (nerr s : Nat)) ∧ Gr w w' := by
  have hsz := bs_size s
  have e : nerr s = (if nlen s = 0 ∨ nlen s ≠ s.length ∨ (1 < nfront s ∧ s.getD 0 0 = 48) then 3 else if 24 < s.length then 17 else 0) := rfl
  have HN := Lib.hid (number_c w s hs)
  have HL := Lib.hid (fun w => long_c w s.length hs)
  by_cases h1 : nlen s = 0
  · rw [if_pos (.inl h1)] at e
    rw [e]
    rw [h1] at HN
    clear e h1 HL
    generalize nfront s = q at *
    generalize s.length = N at *
    go_enter Tryz.func48, Tryz.ntmps48
    go_wp2_with fail
    refine HN.out.mono ?_
    rintro e w1 ⟨rfl, hg1⟩
    go_wp2_with fail
    go_ret
    exact ⟨rfl, hg1⟩
  · by_cases h2 : nlen s = s.length
    · have hp : 0 < s.length := by omega
      have k1 : ((s.length : Int) == 0) = false := beq_eq_false_iff_ne.2 (by omega)
      have k2 : ¬ ((s.length : Int) = 0) := by omega
      have hz : 0 < (bs s).size := by omega
      have g0 := get0_48d s hz
      rw [h2] at HN
      by_cases h3 : 1 < nfront s
      · by_cases h4 : s.getD 0 0 = 48
        · rw [if_pos (.inr (.inr ⟨h3, h4⟩))] at e
          rw [e]
          rw [decide_eq_true h4] at g0
          clear e h1 h2 h4 HL
          generalize nfront s = q at *
          generalize s.length = N at *
          go_enter Tryz.func48, Tryz.ntmps48
          go_wp2_with fail
          refine HN.out.mono ?_
          rintro e w1 ⟨rfl, hg1⟩
          go_wp2_with fail
          go_ret
          exact ⟨rfl, hg1⟩
        · rw [if_neg (by simp only [not_or]; exact ⟨h1, fun x => x h2, fun x => h4 x.2⟩)] at e
          rw [e]
          rw [decide_eq_false h4] at g0
          generalize (if 24 < s.length then 17 else 0) = r at *
          clear e h1 h2 h4
          generalize nfront s = q at *
          generalize s.length = N at *
          go_enter Tryz.func48, Tryz.ntmps48
          go_wp2_with fail
          refine HN.out.mono ?_
          rintro e w1 ⟨rfl, hg1⟩
          go_wp2_with fail
          refine (HL.out _).mono ?_
          rintro e w2 ⟨rfl, rfl⟩
          go_wp2_with fail
          go_ret
          exact ⟨rfl, hg1⟩
      · rw [if_neg (by simp only [not_or]; exact ⟨h1, fun x => x h2, fun x => h3 x.1⟩)] at e
        rw [e]
        generalize (if 24 < s.length then 17 else 0) = r at *
        clear e h1 h2 g0
        generalize nfront s = q at *
        generalize s.length = N at *
        go_enter Tryz.func48, Tryz.ntmps48
        go_wp2_with fail
        refine HN.out.mono ?_
        rintro e w1 ⟨rfl, hg1⟩
        go_wp2_with fail
        refine (HL.out _).mono ?_
        rintro e w2 ⟨rfl, rfl⟩
        go_wp2_with fail
        go_ret
        exact ⟨rfl, hg1⟩
    · rw [if_pos (.inr (.inl h2))] at e
      rw [e]
      generalize nlen s = k at *
      have h5 : ¬ ((k : Int) = s.length) := by omega
      clear e HL
      generalize nfront s = q at *
      generalize s.length = N at *
      go_enter Tryz.func48, Tryz.ntmps48
      go_wp2_with fail
      refine HN.out.mono ?_
      rintro e w1 ⟨rfl, hg1⟩
      go_wp2_with fail
      go_ret
      exact ⟨rfl, hg1⟩
end Go.Proofs.YtlmdpamehhcblaaGreatDoor
