import Derived.Test.YtlmdpamehhcblaaGreatDoorAw
/- Contracts of the reference of units: words, Unit, Word. -/
namespace Go.Proofs.YtlmdpamehhcblaaGreatDoor
open Go.RowKit
open Go.Lib (itoa decDigits)
open YtlmdpamehhcblaaGreatDoorD (rtext uword uval uidx)

/-- The five words lie in block g. -/
def WordsAt (w : World) (g : Nat) : Prop := ∀ j, j < 5 → w.cell? ⟨g, j, none⟩ = some (.string (bs (uword j)))
theorem WordsAt.gr {w w' : World} {g : Nat} (h : WordsAt w g) (k : Gr w w') : WordsAt w' g := fun j hj => cell_gr k (h j hj)
def RetWords (w : World) (e : Ending) (w' : World) : Prop := ∃ g, e = .returned (.slice (some ⟨g, 0, none⟩) 5 5) ∧ Gr w w' ∧ WordsAt w' g
theorem words_at (w : World) (t : TypeId) : WordsAt (w.alloc (.cells #[.string w0, .string w1, .string w2, .string w3, .string w4] t)) w.heap.size := fun j hj => by
  obtain ⟨h0, h1, h2, h3, h4⟩ := new5 w (.string w0) (.string w1) (.string w2) (.string w3) (.string w4) t
  match j, hj with
  | 0, _ => exact h0
  | 1, _ => exact h1
  | 2, _ => exact h2
  | 3, _ => exact h3
  | 4, _ => exact h4
set_option maxHeartbeats 1000000 in
theorem words13_c (w : World) : Calls Tryz.prog 87 #[] w (RetWords w) := by
  unfold RetWords
  go_enter Tryz.func87, Tryz.ntmps87
  go_wp2_with fail
  go_ret
  exact ⟨_, rfl, (Gr.refl _).alloc _, words_at w 9⟩
set_option maxHeartbeats 2000000 in
theorem Unit13_c (w : World) (s : List UInt8) : Calls Tryz.prog 26 #[.string (bs s)] w (RetUnit s w) := by
  have HR := Lib.hid (words13_c w)
  unfold RetWords at HR
  unfold RetUnit
  go_enter Tryz.func26, Tryz.ntmps26
  go_wp2_with fail
  refine HR.out.mono ?_
  rintro e w1 ⟨g, rfl, hg, hw⟩
  have HW := Lib.hid hw
  clear hw
  go_wp2_with fail
  go_loopg [5] 5 (fun k i wr => ∃ j : Nat, k + j = 5 ∧ i = .int .i64 j ∧ Aside ((∀ m, m < j → uword m ≠ s) ∧ Gr w1 wr))
  case atStart => exact ⟨0, rfl, rfl, fun m hm => absurd hm (by omega), Gr.refl _⟩
  case round =>
    obtain ⟨j, hj, rfl, A⟩ := hrel
    by_cases hlt : j < 5
    · have cc := (HW.out.gr A.out.2) j hlt
      have b := beq_bs (uword j) s
      by_cases h : uword j = s
      · rw [decide_eq_true h] at b
        have hsome : uidx s = some j := by rw [← h]; exact YtlmdpamehhcblaaGreatDoorD.uidx_word hlt
        have HS := Lib.hid hsome
        clear hsome h
        generalize bs (uword j) = x at *
        generalize bs s = y at *
        go_wp2_with fail
        go_ret2
        exact ⟨by rw [HS.out]; rfl, hg.trans A.out.2⟩
      · rw [decide_eq_false h] at b
        have A2 : Aside ((∀ m, m < j + 1 → uword m ≠ s) ∧ Gr w1 wr) := ⟨fun m hm => (Nat.lt_succ_iff_lt_or_eq.1 hm).elim (A.out.1 m) (fun e => by rw [e]; exact h), A.out.2⟩
        clear A h
        generalize bs (uword j) = x at *
        generalize bs s = y at *
        go_wp2_with fail
        go_roundg (gk - 1)
        case measure => omega
        case rel => exact ⟨j + 1, by omega, by go_num, A2.out⟩
    · have hj0 : j = 5 := by omega
      have hne := A.out.1
      rw [hj0] at hne
      have hno : uidx s = none := by
        unfold YtlmdpamehhcblaaGreatDoorD.uidx
        rw [if_neg (fun e => hne 0 (by omega) e.symm), if_neg (fun e => hne 1 (by omega) e.symm), if_neg (fun e => hne 2 (by omega) e.symm), if_neg (fun e => hne 3 (by omega) e.symm), if_neg (fun e => hne 4 (by omega) e.symm)]
      have HS := Lib.hid hno
      clear hno hne
      go_wp2_with fail
      go_ret2
      exact ⟨by rw [HS.out]; rfl, hg.trans A.out.2⟩
set_option maxHeartbeats 2000000 in
theorem Word13_c (w : World) (u : Int) : Calls Tryz.prog 28 #[.int .i64 u] w fun e w' => e = .returned (if 0 ≤ u ∧ u < 5 then .tuple #[.string (bs (uword u.toNat)), .int .i64 0] else .tuple #[.string (bs []), .int .i64 20]) ∧ Gr w w' := by
  have HR := Lib.hid (words13_c w)
  unfold RetWords at HR
  by_cases h : 0 ≤ u ∧ u < 5
  · rw [if_pos h]
    obtain ⟨n, rfl⟩ := Int.eq_ofNat_of_zero_le h.1
    have hn : n < 5 := by omega
    show Calls Tryz.prog 28 #[.int .i64 (n : Int)] w fun e w' => e = .returned (.tuple #[.string (bs (uword n)), .int .i64 0]) ∧ Gr w w'
    clear h
    obtain ⟨x, hx⟩ : ∃ x, x = bs (uword n) := ⟨_, rfl⟩
    rw [← hx]
    have HX := Lib.hid hx
    clear hx
    go_enter Tryz.func28, Tryz.ntmps28
    go_wp2_with fail
    refine HR.out.mono ?_
    rintro e w1 ⟨g, rfl, hg, hw⟩
    have cc := hw n hn
    rw [← HX.out] at cc
    clear hw
    go_wp2_with fail
    go_ret2
    exact ⟨rfl, hg⟩
  · rw [if_neg h]
    rcases (show u < 0 ∨ 5 ≤ u by omega) with h1 | h1
    all_goals (
      clear h
      go_enter Tryz.func28, Tryz.ntmps28
      go_wp2_with fail
      go_ret2
      exact ⟨rfl, Gr.refl _⟩)
theorem unitV_two (r : Option Nat) : ∃ a b, unitV r = .tuple #[.int .i64 a, .int .i64 b] := by
  cases r with
  | none => exact ⟨0, 20, rfl⟩
  | some u => exact ⟨u, 0, rfl⟩
theorem word_two (u : Int) : ∃ (x : ByteArray) (c : Int), (if 0 ≤ u ∧ u < 5 then Value.tuple #[.string (bs (uword u.toNat)), .int .i64 0] else .tuple #[.string (bs []), .int .i64 20]) = .tuple #[.string x, .int .i64 c] := by
  split
  · exact ⟨_, _, rfl⟩
  · exact ⟨_, _, rfl⟩
set_option maxHeartbeats 4000000 in
theorem Words_c (w : World) (he : Env w) (s : List UInt8) (u : Int) : Calls Tryz.prog 4 #[.string (bs s), .int .i64 u] w fun e w' => e = .returned (.bool true) ∧ Gr w w' := by
  have HA := Lib.hid (fun w he => awake13_c w he)
  have HE := Lib.hid he
  have U1 := fun w => Unit_c w s
  have U2 := fun w => Unit13_c w s
  have W1 := fun w => Word_c w u
  have W2 := fun w => Word13_c w u
  unfold RetUnit at U1 U2
  obtain ⟨a, b, hab⟩ := unitV_two (uidx s)
  obtain ⟨x, c, hxc⟩ := word_two u
  rw [hab] at U1 U2
  rw [hxc] at W1 W2
  have U1 := Lib.hid U1; have U2 := Lib.hid U2; have W1 := Lib.hid W1; have W2 := Lib.hid W2
  clear he hab hxc
  generalize bs s = S at *
  by_cases h : 100 < S.size
  · go_enter Tryz.func4, Tryz.ntmps4
    go_wp2_with fail
    refine (HA.out _ HE.out).mono ?_
    rintro e w1 ⟨rfl, hg⟩
    go_wp2_with fail
    go_ret
    exact ⟨rfl, hg⟩
  · go_enter Tryz.func4, Tryz.ntmps4
    go_wp2_with fail
    refine (U1.out _).mono ?_
    rintro e w1 ⟨rfl, hg1⟩
    go_wp2_with fail
    refine (U2.out _).mono ?_
    rintro e w2 ⟨rfl, hg2⟩
    have G2 := hg1.trans hg2
    clear hg1 hg2
    go_wp2_with fail
    refine (W1.out _).mono ?_
    rintro e w3 ⟨rfl, hg3⟩
    have G3 := G2.trans hg3
    clear G2 hg3
    go_wp2_with fail
    refine (W2.out _).mono ?_
    rintro e w4 ⟨rfl, hg4⟩
    have G4 := G3.trans hg4
    clear G3 hg4
    go_wp2_with fail
    refine (HA.out _ (HE.out.gr G4)).mono ?_
    rintro e w5 ⟨rfl, hg5⟩
    go_wp2_with fail
    go_ret
    exact ⟨by simp, G4.trans hg5⟩
end Go.Proofs.YtlmdpamehhcblaaGreatDoor
