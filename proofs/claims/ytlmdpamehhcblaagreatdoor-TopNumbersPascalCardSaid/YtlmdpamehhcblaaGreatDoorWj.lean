import Derived.Test.YtlmdpamehhcblaaGreatDoorWi
/- Contracts of package whole: limited, Of, result, small, Mul. -/
namespace Go.Proofs.YtlmdpamehhcblaaGreatDoor
open Go.RowKit
open Go.Lib (itoa decDigits)
open YtlmdpamehhcblaaGreatDoorV (wd nw B upd B_eq)

theorem wtext_int (n : Int) : wtext (decide (n < 0)) n.natAbs = itoa n := by
  unfold wtext
  by_cases h : n.natAbs = 0
  · rw [if_pos h, show n = ((0 : Nat) : Int) by omega, YtlmdpamehhcblaaGreatDoorD.itoa_nat, YtlmdpamehhcblaaGreatDoorD.decDigits_small (by decide)]; rfl
  · rw [if_neg h]
    unfold Lib.itoa
    by_cases hn : n < 0
    · rw [if_pos hn, decide_eq_true hn]; rfl
    · rw [if_neg hn, decide_eq_false hn, show n.natAbs = n.toNat by omega]; rfl
/-- The number that (l, v) stands for. -/
def wint (l : Bool) (v : Nat) : Int := if l then -(v : Int) else v
theorem wtext_wint (l : Bool) (v : Nat) : wtext l v = itoa (wint l v) := by
  rw [← wtext_int]
  unfold wint wtext
  cases l with
  | true =>
    by_cases h : v = 0
    · subst h; rfl
    · simp only [if_true]
      rw [show (-(v : Int)).natAbs = v by omega, decide_eq_true (show -(v : Int) < 0 by omega)]
      simp only [if_true]
  | false =>
    simp only [Bool.false_eq_true, if_false]
    rw [show ((v : Int)).natAbs = v by omega, decide_eq_false (show ¬ (v : Int) < 0 by omega)]
    simp only [Bool.false_eq_true, if_false]
theorem wint_abs (l : Bool) (v : Nat) : (wint l v).natAbs = v := by unfold wint; cases l <;> simp
/-- An integer's text, and no error. -/
def RetI (n : Int) (w : World) (e : Ending) (w' : World) : Prop := e = .returned (.tuple #[.string (bs (itoa n)), .int .i64 0]) ∧ Gr w w'
set_option maxHeartbeats 1000000 in
theorem limited_c (w : World) (he : Env w) (g : Nat) (l : Bool) (v : Nat) (hw : IsW w g l v) (hv : v < YtlmdpamehhcblaaGreatDoorD.Lim) : Calls Tryz.prog 106 #[.pointer (some ⟨g, 0, none⟩)] w (RetI (wint l v) w) := by
  have ht := text_c w he g l v hw hv
  rw [wtext_wint] at ht
  have hck := fun w => Check_int w (wint l v) (by rw [wint_abs]; exact hv)
  generalize wint l v = n at *
  have HT := Lib.hid ht; have HC := Lib.hid hck; clear ht hck
  unfold RetI
  generalize bs (itoa n) = s at *
  go_enter Tryz.func106, Tryz.ntmps106
  go_wp2_with fail
  refine HT.out.mono ?_
  rintro e w1 ⟨rfl, hg1⟩
  go_wp2_with fail
  refine (HC.out _).mono ?_
  rintro e w2 ⟨rfl, hg2⟩
  go_wp2_with fail
  go_ret2
  exact ⟨rfl, hg1.trans hg2⟩
theorem Of_c (w : World) (he : Env w) (n : Int) (h0 : -9223372036854775808 ≤ n) (h1 : n ≤ 9223372036854775807) : Calls Tryz.prog 99 #[.int .i64 n] w fun e w' => e = .returned (.string (bs (itoa n))) ∧ Gr w w' := by
  have HT := Lib.hid (Itoa_c w he n h0 h1)
  generalize bs (itoa n) = s at *
  go_enter Tryz.func99, Tryz.ntmps99
  go_wp2_with fail
  refine HT.out.mono ?_
  rintro e w1 ⟨rfl, hg1⟩
  go_wp2_with fail
  go_ret
  exact ⟨rfl, hg1⟩
theorem result_c (w : World) (he : Env w) (n : Int) (h0 : -9223372036854775808 ≤ n) (h1 : n ≤ 9223372036854775807) : Calls Tryz.prog 192 #[.int .i64 n] w (RetI n w) := by
  have HT := Lib.hid (Of_c w he n h0 h1)
  unfold RetI
  generalize bs (itoa n) = s at *
  go_enter Tryz.func192, Tryz.ntmps192
  go_wp2_with fail
  refine HT.out.mono ?_
  rintro e w1 ⟨rfl, hg1⟩
  go_wp2_with fail
  go_ret2
  exact ⟨rfl, hg1⟩
/-- Is the text of at most nine bytes? -/
def isShort (n : Int) : Bool := decide ((itoa n).length ≤ 9)
theorem short_bd {n : Int} (h : isShort n = true) : -1000000000 < n ∧ n < 1000000000 := by
  unfold isShort at h
  have hl := of_decide_eq_true h
  have h2 : (decDigits n.natAbs).length ≤ 9 := by
    unfold Lib.itoa at hl
    split at hl
    · rw [List.length_cons] at hl; omega
    · rw [show n.natAbs = n.toNat by omega]; exact hl
  rw [YtlmdpamehhcblaaGreatDoorD.decDigits_len] at h2
  have := (YtlmdpamehhcblaaGreatDoorD.nDigits_le_iff _ _ (by decide)).1 h2
  simp at this
  omega
theorem Atoi_int (w : World) (n : Int) (h0 : -1000000000000000000 < n) (h1 : n < 1000000000000000000) :
    Calls Tryz.prog 162 #[.string (bs (itoa n))] w fun e w' => e = .returned (.tuple #[.int .i64 n, .nilIface]) ∧ Gr w w' :=
  Atoi_ok w (itoa n) (by
    have : (itoa n).length ≤ 1025 := itoa_len_le (by
      have h := YtlmdpamehhcblaaGreatDoorD.lim_big
      omega)
    omega) n (YtlmdpamehhcblaaGreatDoorD.atoi_itoa h0 h1)
set_option maxHeartbeats 1000000 in
theorem small_yes (w : World) (m n : Int) (hm : isShort m = true) (hn : isShort n = true) :
    Calls Tryz.prog 191 #[.string (bs (itoa m)), .string (bs (itoa n))] w fun e w' => e = .returned (.tuple #[.int .i64 m, .int .i64 n, .bool true]) ∧ Gr w w' := by
  have bm := short_bd hm
  have bn := short_bd hn
  have H1 := Lib.hid (fun w => Atoi_int w m (by omega) (by omega))
  have H2 := Lib.hid (fun w => Atoi_int w n (by omega) (by omega))
  have l1 := of_decide_eq_true hm
  have l2 := of_decide_eq_true hn
  rw [← bs_size] at l1 l2
  generalize bs (itoa m) = s at *
  generalize bs (itoa n) = t at *
  go_enter Tryz.func191, Tryz.ntmps191
  go_wp2_with fail
  refine (H1.out _).mono ?_
  rintro e w1 ⟨rfl, hg1⟩
  go_wp2_with fail
  refine (H2.out _).mono ?_
  rintro e w2 ⟨rfl, hg2⟩
  go_wp2_with fail
  go_ret3
  exact ⟨rfl, hg1.trans hg2⟩
theorem small_no (w : World) (m n : Int) (h : isShort m = false ∨ isShort n = false) (hl : (itoa m).length ≤ 9223372036854775807) (hl2 : (itoa n).length ≤ 9223372036854775807) :
    Calls Tryz.prog 191 #[.string (bs (itoa m)), .string (bs (itoa n))] w fun e w' => e = .returned (.tuple #[.int .i64 0, .int .i64 0, .bool false]) ∧ Gr w w' := by
  unfold isShort at h
  rw [decide_eq_false_iff_not, decide_eq_false_iff_not] at h
  rw [← bs_size] at h hl
  rw [← bs_size] at h hl2
  generalize bs (itoa m) = s at *
  generalize bs (itoa n) = t at *
  by_cases h1 : 9 < s.size
  · clear h
    go_enter Tryz.func191, Tryz.ntmps191
    go_wp2_with fail
    go_ret3
    exact ⟨rfl, Gr.refl _⟩
  · have h2 : 9 < t.size := by omega
    clear h
    go_enter Tryz.func191, Tryz.ntmps191
    go_wp2_with fail
    go_ret3
    exact ⟨rfl, Gr.refl _⟩
end Go.Proofs.YtlmdpamehhcblaaGreatDoor
