import Derived.Test.YtlmdpamehhcblaaGreatDoorWi
/- Contracts of package whole: limited, Of, result, small, Mul. -/
namespace Go.Proofs.YtlmdpamehhcblaaGreatDoor
open Go.RowKit
open Go.Lib (itoa decDigits)
open YtlmdpamehhcblaaGreatDoorV (wd nw B upd B_eq)

theorem wtext_int (n : Int) : wtext (decide (n < 0)) n.natAbs = itoa n := by
  unfold wtext
  by_cases h : n.natAbs = 0
  · rw [if_pos h, show n = ((0 : Nat) : Int) by omega, YtlmdpamehhcblaaGreatDoorD.itoa_nat, YtlmdpamehhcblaaGreatDoorD.decDigits_small (by decide)]; rfl
  · rw [if_neg h]
    unfold Lib.itoa
    by_cases hn : n < 0
    · rw [if_pos hn, decide_eq_true hn]; rfl
    · rw [if_neg hn, decide_eq_false hn, show n.natAbs = n.toNat by omega]; rfl
/-- The number that (l, v) stands for. -/
def wint (l : Bool) (v : Nat) : Int := if l then -(v : Int) else v
theorem wtext_wint (l : Bool) (v : Nat) : wtext l v = itoa (wint l v) := by
  rw [← wtext_int]
  unfold wint wtext
  cases l with
  | true =>
    by_cases h : v = 0
    · subst h; rfl
    · simp only [if_true]
      rw [show (-(v : Int)).natAbs = v by omega, decide_eq_true (show -(v : Int) < 0 by omega)]
      simp only [if_true]
  | false =>
    simp only [Bool.false_eq_true, if_false]
    rw [show ((v : Int)).natAbs = v by omega, decide_eq_false (show ¬ (v : Int) < 0 by omega)]
    simp only [Bool.false_eq_true, if_false]
theorem wint_abs (l : Bool) (v : Nat) : (wint l v).natAbs = v := by unfold wint; cases l <;> simp
/-- An integer's text, and no error. -/
def RetI (n : Int) (w : World) (e : Ending) (w' : World) : Prop := e = .returned (.tuple #[.string (bs (itoa n)), .int .i64 0]) ∧ Gr w w'
set_option maxHeartbeats 1000000 in
theorem limited_c (w : World) (he : Env w) (g : Nat) (l : Bool) (v : Nat) (hw : IsW w g l v) (hv : v < YtlmdpamehhcblaaGreatDoorD.Lim) : Calls Tryz.prog 106 #[.pointer (some ⟨g, 0, none⟩)] w (RetI (wint l v) w) := by
  have ht := text_c w he g l v hw hv
  rw [wtext_wint] at ht
  have hck := fun w => Check_int w (wint l v) (by rw [wint_abs]; exact hv)
  generalize wint l v = n at *
  have HT := Lib.hid ht; have HC := Lib.hid hck; clear ht hck
  unfold RetI
  generalize bs (itoa n) = s at *
  go_enter Tryz.func106, Tryz.ntmps106
  go_wp2_with fail
  refine HT.out.mono ?_
  rintro e w1 ⟨rfl, hg1⟩
  go_wp2_with fail
  refine (HC.out _).mono ?_
  rintro e w2 ⟨rfl, hg2⟩
  go_wp2_with fail
  go_ret2
  exact ⟨rfl, hg1.trans hg2⟩
theorem Of_c (w : World) (he : Env w) (n : Int) (h0 : -9223372036854775808 ≤ n) (h1 : n ≤ 9223372036854775807) : Calls Tryz.prog 99 #[.int .i64 n] w fun e w' => e = .returned (.string (bs (itoa n))) ∧ Gr w w' := by
  have HT := Lib.hid (Itoa_c w he n h0 h1)
  generalize bs (itoa n) = s at *
  go_enter Tryz.func99, Tryz.ntmps99
  go_wp2_with fail
  refine HT.out.mono ?_
  rintro e w1 ⟨rfl, hg1⟩
  go_wp2_with fail
  go_ret
  exact ⟨rfl, hg1⟩
theorem result_c (w : World) (he : Env w) (n : Int) (h0 : -9223372036854775808 ≤ n) (h1 : n ≤ 9223372036854775807) : Calls Tryz.prog 192 #[.int .i64 n] w (RetI n w) := by
  have HT := Lib.hid (Of_c w he n h0 h1)
  unfold RetI
  generalize bs (itoa n) = s at *
  go_enter Tryz.func192, Tryz.ntmps192
  go_wp2_with fail
  refine HT.out.mono ?_
  rintro e w1 ⟨rfl, hg1⟩
  go_wp2_with fail
  go_ret2
  exact ⟨rfl, hg1⟩
/-- Is the text of at most nine bytes? -/
def isShort (n : Int) : Bool := decide ((itoa n).length ≤ 9)
theorem short_bd {n : Int} (h : isShort n = true) : -1000000000 < n ∧ n < 1000000000 := by
  unfold isShort at h
  have hl := of_decide_eq_true h
  have h2 : (decDigits n.natAbs).length ≤ 9 := by
    unfold Lib.itoa at hl
    split at hl
    · rw [List.length_cons] at hl; omega
    · rw [show n.natAbs = n.toNat by omega]; exact hl
  rw [YtlmdpamehhcblaaGreatDoorD.decDigits_len] at h2
  have := (YtlmdpamehhcblaaGreatDoorD.nDigits_le_iff _ _ (by decide)).1 h2
  simp at this
  omega
theorem Atoi_int (w : World) (n : Int) (h0 : -1000000000000000000 < n) (h1 : n < 1000000000000000000) :
    Calls Tryz.prog 162 #[.string (bs (itoa n))] w fun e w' => e = .returned (.tuple #[.int .i64 n, .nilIface]) ∧ Gr w w' :=
  Atoi_ok w (itoa n) (by
    have : (itoa n).length ≤ 1025 := itoa_len_le (by
      have h := YtlmdpamehhcblaaGreatDoorD.lim_big
      omega)
    omega) n (YtlmdpamehhcblaaGreatDoorD.atoi_itoa h0 h1)
set_option maxHeartbeats 1000000 in
theorem small_yes (w : World) (m n : Int) (hm : isShort m = true) (hn : isShort n = true) :
    Calls Tryz.prog 191 #[.string (bs (itoa m)), .string (bs (itoa n))] w fun e w' => e = .returned (.tuple #[.int .i64 m, .int .i64 n, .bool true]) ∧ Gr w w' := by
  have bm := short_bd hm
  have bn := short_bd hn
  have H1 := Lib.hid (fun w => Atoi_int w m (by omega) (by omega))
  have H2 := Lib.hid (fun w => Atoi_int w n (by omega) (by omega))
  have l1 := of_decide_eq_true hm
  have l2 := of_decide_eq_true hn
  rw [← bs_size] at l1 l2
  generalize bs (itoa m) = s at *
  generalize bs (itoa n) = t at *
  go_enter Tryz.func191, Tryz.ntmps191
  go_wp2_with fail
  refine (H1.out _).mono ?_
  rintro e w1 ⟨rfl, hg1⟩
  go_wp2_with fail
  refine (H2.out _).mono ?_
  rintro e w2 ⟨rfl, hg2⟩
  go_wp2_with fail
  go_ret3
  exact ⟨rfl, hg1.trans hg2⟩
theorem small_no (w : World) (m n : Int) (h : isShort m = false ∨ isShort n = false) (hl : (itoa m).length ≤ 9223372036854775807) (hl2 : (itoa n).length ≤ 9223372036854775807) :
    Calls Tryz.prog 191 #[.string (bs (itoa m)), .string (bs (itoa n))] w fun e w' => e = .returned (.tuple #[.int .i64 0, .int .i64 0, .bool false]) ∧ Gr w w' := by
  unfold isShort at h
  rw [decide_eq_false_iff_not, decide_eq_false_iff_not] at h
  rw [← bs_size] at h hl
  rw [← bs_size] at h hl2
  generalize bs (itoa m) = s at *
  generalize bs (itoa n) = t at *
  by_cases h1 : 9 < s.size
  · clear h
    go_enter Tryz.func191, Tryz.ntmps191
    go_wp2_with fail
    go_ret3
    exact ⟨rfl, Gr.refl _⟩
  · have h2 : 9 < t.size := by omega
    clear h
    go_enter Tryz.func191, Tryz.ntmps191
    go_wp2_with fail
    go_ret3
    exact ⟨rfl, Gr.refl _⟩
end Go.Proofs.YtlmdpamehhcblaaGreatDoor
/- Contracts of package whole: Mul, opposite, Compare. -/
namespace Go.Proofs.YtlmdpamehhcblaaGreatDoor
open Go.RowKit
open Go.Lib (itoa decDigits)
open YtlmdpamehhcblaaGreatDoorV (wd nw B upd B_eq)

theorem nw_le_of {v : Nat} (h : v < YtlmdpamehhcblaaGreatDoorD.Lim) : nw v ≤ 114 := by
  apply (YtlmdpamehhcblaaGreatDoorV.nw_le_iff _ _).2
  have h2 : ∀ k, k = 114 → v < B ^ k := fun k hk => by
    have e : B ^ k = 10 ^ (9 * k) := by rw [Nat.pow_mul]; rfl
    rw [e]
    exact Nat.lt_of_lt_of_le h (YtlmdpamehhcblaaGreatDoorD.le_lim (by omega))
  exact h2 114 rfl
theorem all2_c (w : World) (g : Nat) (m n : Int) (h0 : w.cell? ⟨g, 0, none⟩ = some (.string (bs (itoa m)))) (h1 : w.cell? ⟨g, 1, none⟩ = some (.string (bs (itoa n)))) (hm : m.natAbs < YtlmdpamehhcblaaGreatDoorD.Lim) (hn : n.natAbs < YtlmdpamehhcblaaGreatDoorD.Lim) :
    Calls Tryz.prog 111 #[.slice (some ⟨g, 0, none⟩) 2 2] w (RetE 0 w) :=
  all_c w g 0 2 [m, n] (fun j hj => by
    match j, hj with
    | 0, _ => exact h0
    | 1, _ => exact h1) (by simp) (fun x hx => by
    simp only [List.mem_cons, List.not_mem_nil, or_false] at hx
    rcases hx with rfl | rfl
    · exact hm
    · exact hn)
theorem new2 (w : World) (a b : Value) (t : TypeId) : (w.alloc (.cells #[a, b] t)).cell? ⟨w.heap.size, 0, none⟩ = some a ∧ (w.alloc (.cells #[a, b] t)).cell? ⟨w.heap.size, 1, none⟩ = some b := by
  have h : (w.alloc (.cells #[a, b] t)).heap[w.heap.size]? = some (.cells #[a, b] t) := heap_alloc_new w _
  constructor <;> (unfold World.cell?; rw [h]; rfl)
set_option maxHeartbeats 2000000 in
theorem Mul_c (w : World) (he : Env w) (m n : Int) (hm : m.natAbs < YtlmdpamehhcblaaGreatDoorD.Lim) (hn : n.natAbs < YtlmdpamehhcblaaGreatDoorD.Lim) (hmn : (m * n).natAbs < YtlmdpamehhcblaaGreatDoorD.Lim) :
    Calls Tryz.prog 113 #[.string (bs (itoa m)), .string (bs (itoa n))] w (RetI (m * n) w) := by
  have HA := Lib.hid (fun w g h0 h1 => all2_c w g m n h0 h1 hm hn)
  have HR1 := Lib.hid (fun w => read_c w m hm)
  have HR2 := Lib.hid (fun w => read_c w n hn)
  have lm := itoa_len_le hm
  have ln := itoa_len_le hn
  have N1 := nw_le_of hm
  have N2 := nw_le_of hn
  have HN := Lib.hid hmn
  by_cases hs : isShort m = true ∧ isShort n = true
  · have HS := Lib.hid (fun w => small_yes w m n hs.1 hs.2)
    have b1 := short_bd hs.1
    have b2 := short_bd hs.2
    have hb : -1000000000000000000 ≤ m * n ∧ m * n ≤ 1000000000000000000 := by
      have x1 : (m * n).natAbs ≤ 1000000000 * 1000000000 := by rw [Int.natAbs_mul]; exact Nat.mul_le_mul (by omega) (by omega)
      omega
    have hb1 := hb.1
    have hb2 := hb.2
    have HQ := Lib.hid (fun w he => result_c w he (m * n) (by omega) (by omega))
    clear hm hn hmn N1 N2 lm ln hs hb b1 b2
    unfold RetI at *
    generalize bs (itoa (m * n)) = r at *
    generalize bs (itoa m) = s at *
    generalize bs (itoa n) = t at *
    go_enter Tryz.func113, Tryz.ntmps113
    go_wp2_with fail
    refine (HA.out _ _ (new2 w _ _ _).1 (new2 w _ _ _).2).mono ?_
    rintro e w1 ⟨rfl, hg1⟩
    have HG1 := Lib.hid (((Gr.refl w).alloc _).trans hg1)
    clear hg1
    go_wp2_with fail
    refine (HS.out _).mono ?_
    rintro e w2 ⟨rfl, hg2⟩
    have HG2 := Lib.hid (HG1.out.trans hg2)
    clear hg2
    go_wp2_with fail
    refine (HQ.out _ (he.gr HG2.out)).mono ?_
    rintro e w3 ⟨rfl, hg3⟩
    go_wp2_with fail
    go_ret2
    exact ⟨rfl, HG2.out.trans hg3⟩
  · have hs2 : isShort m = false ∨ isShort n = false := by
      cases ha : isShort m <;> cases hb : isShort n <;> simp_all
    have HS := Lib.hid (fun w => small_no w m n hs2 (by omega) (by omega))
    have e1 : wint (decide (m < 0) != decide (n < 0)) (m.natAbs * n.natAbs) = m * n := by
      unfold wint
      rcases (show m < 0 ∨ 0 ≤ m by omega) with h1 | h1 <;> rcases (show n < 0 ∨ 0 ≤ n by omega) with h2 | h2
      · rw [decide_eq_true h1, decide_eq_true h2, Int.natCast_mul, show (m.natAbs : Int) = -m by omega, show (n.natAbs : Int) = -n by omega, Int.neg_mul_neg]; rfl
      · rw [decide_eq_true h1, decide_eq_false (by omega), Int.natCast_mul, show (m.natAbs : Int) = -m by omega, show (n.natAbs : Int) = n by omega, Int.neg_mul, Int.neg_neg]; rfl
      · rw [decide_eq_false (by omega), decide_eq_true h2, Int.natCast_mul, show (m.natAbs : Int) = m by omega, show (n.natAbs : Int) = -n by omega, Int.mul_neg, Int.neg_neg]; rfl
      · rw [decide_eq_false (by omega), decide_eq_false (by omega), Int.natCast_mul, show (m.natAbs : Int) = m by omega, show (n.natAbs : Int) = n by omega]; rfl
    rw [← e1]
    have hb : m.natAbs * n.natAbs < YtlmdpamehhcblaaGreatDoorD.Lim := by rw [← Int.natAbs_mul]; exact hmn
    have HB := Lib.hid hb
    clear hs hs2 e1 hb hm hn hmn lm ln
    generalize decide (m < 0) = l1 at *
    generalize decide (n < 0) = l2 at *
    generalize m.natAbs = u at *
    generalize n.natAbs = v at *
    generalize bs (itoa m) = s at *
    generalize bs (itoa n) = t at *
    go_enter Tryz.func113, Tryz.ntmps113
    go_wp2_with fail
    refine (HA.out _ _ (new2 w _ _ _).1 (new2 w _ _ _).2).mono ?_
    rintro e w1 ⟨rfl, hg1⟩
    have HG1 := Lib.hid (((Gr.refl w).alloc _).trans hg1)
    clear hg1
    go_wp2_with fail
    refine (HS.out _).mono ?_
    rintro e w2 ⟨rfl, hg2⟩
    have HG2 := Lib.hid (HG1.out.trans hg2)
    clear hg2
    go_wp2_with fail
    refine (HR1.out _).mono ?_
    rintro e w3 ⟨gx, rfl, hx0, hx, hg3⟩
    have HG3 := Lib.hid (HG2.out.trans hg3)
    have HX := Lib.hid hx
    clear hg3 hx hx0
    go_wp2_with fail
    refine (HR2.out _).mono ?_
    rintro e w4 ⟨gy, rfl, hy0, hy, hg4⟩
    have HG4 := Lib.hid (HG3.out.trans hg4)
    have HX4 := Lib.hid (HX.out.grow hg4)
    have HY := Lib.hid hy
    clear hg4 hy hy0
    go_wp2_with fail
    refine (times_c _ gx gy l1 l2 u v HX4.out HY.out (by omega)).mono ?_
    rintro e w5 ⟨gz, rfl, hz0, hz, hg5⟩
    have HG5 := Lib.hid (HG4.out.trans hg5)
    have HZ := Lib.hid hz
    clear hg5 hz hz0
    go_wp2_with fail
    refine (limited_c _ (he.gr HG5.out) gz _ _ HZ.out HB.out).mono ?_
    rintro e w6 ⟨rfl, hg6⟩
    go_wp2_with fail
    go_ret2
    exact ⟨rfl, HG5.out.trans hg6⟩
end Go.Proofs.YtlmdpamehhcblaaGreatDoor
/- Contracts of package whole: order, Compare, opposite, Neg. -/
namespace Go.Proofs.YtlmdpamehhcblaaGreatDoor
open Go.RowKit
open Go.Lib (itoa decDigits)

set_option maxHeartbeats 1000000 in
theorem order_c (w : World) (u v : Nat) (_hu : (decDigits u).length ≤ 1024) (_hv : (decDigits v).length ≤ 1024) :
    Calls Tryz.prog 178 #[.string (bs (decDigits u)), .string (bs (decDigits v))] w fun e w' => e = .returned (.int .i64 ((u : Int) - v).sign) ∧ w' = w := by
  have s1 := bs_size (decDigits u)
  have s2 := bs_size (decDigits v)
  have HC := Lib.hid (fun w => Compare_c w (decDigits u) (decDigits v))
  rcases Nat.lt_trichotomy (decDigits u).length (decDigits v).length with h | h | h
  · rw [Int.sign_eq_neg_one_of_neg (by have := YtlmdpamehhcblaaGreatDoorD.lt_of_digits h; omega)]
    rw [← s1, ← s2] at h
    rw [← s1] at _hu
    rw [← s2] at _hv
    clear s1 s2 HC
    generalize bs (decDigits u) = s at *
    generalize bs (decDigits v) = t at *
    have hne : ((s.size : Int) != (t.size : Int)) = true := by rw [bne_iff_ne]; omega
    have hne2 : (s.size != t.size) = true := by rw [bne_iff_ne]; omega
    have hlt2 : decide (s.size < t.size) = true := by simpa using h
    go_enter Tryz.func178, Tryz.ntmps178
    go_wp2_with fail
    go_ret
    exact ⟨rfl, rfl⟩
  · rw [YtlmdpamehhcblaaGreatDoorD.compare_digits u v h] at HC
    rw [← s1, ← s2] at h
    rw [← s1] at _hu
    rw [← s2] at _hv
    clear s1 s2
    generalize bs (decDigits u) = s at *
    generalize bs (decDigits v) = t at *
    have hne : ((s.size : Int) != (t.size : Int)) = false := by rw [bne_eq_false_iff_eq]; omega
    have hne2 : (s.size != t.size) = false := by rw [bne_eq_false_iff_eq]; omega
    have H := Lib.hid h; clear h
    go_enter Tryz.func178, Tryz.ntmps178
    go_wp2_with fail
    refine (HC.out _).mono ?_
    rintro e w1 ⟨rfl, rfl⟩
    go_wp2_with fail
    go_ret
    exact ⟨rfl, rfl⟩
  · rw [Int.sign_eq_one_of_pos (by have := YtlmdpamehhcblaaGreatDoorD.lt_of_digits h; omega)]
    rw [← s1, ← s2] at h
    rw [← s1] at _hu
    rw [← s2] at _hv
    clear s1 s2 HC
    generalize bs (decDigits u) = s at *
    generalize bs (decDigits v) = t at *
    have hne : ((s.size : Int) != (t.size : Int)) = true := by rw [bne_iff_ne]; omega
    have hne2 : (s.size != t.size) = true := by rw [bne_iff_ne]; omega
    have hlt2 : decide (s.size < t.size) = false := by simp; omega
    go_enter Tryz.func178, Tryz.ntmps178
    go_wp2_with fail
    go_ret
    exact ⟨rfl, rfl⟩
theorem sign_mag (m n : Int) (h : m.sign = n.sign) : m.sign * ((m.natAbs : Int) - n.natAbs).sign = (m - n).sign := by
  rcases Int.lt_trichotomy m 0 with hm | hm | hm
  · rw [Int.sign_eq_neg_one_of_neg hm] at h ⊢
    have hn : n < 0 := Int.sign_eq_neg_one_iff_neg.1 h.symm
    rw [show (m.natAbs : Int) - n.natAbs = -(m - n) by omega, Int.sign_neg]; omega
  · subst hm
    have hn : n = 0 := Int.sign_eq_zero_iff_zero.1 h.symm
    subst hn; rfl
  · rw [Int.sign_eq_one_of_pos hm] at h ⊢
    have hn : 0 < n := Int.sign_eq_one_iff_pos.1 h.symm
    rw [show (m.natAbs : Int) - n.natAbs = (m - n) by omega]; omega
theorem sign_lt {m n : Int} (h : m.sign < n.sign) : (m - n).sign = -1 := by
  apply Int.sign_eq_neg_one_of_neg
  rcases Int.lt_trichotomy m 0 with hm | hm | hm <;> rcases Int.lt_trichotomy n 0 with hn | hn | hn <;>
    simp_all [Int.sign_eq_neg_one_of_neg, Int.sign_eq_one_of_pos] <;> omega
/-- A number and no error. -/
def RetN (n : Int) (w : World) (e : Ending) (w' : World) : Prop := e = .returned (.tuple #[.int .i64 n, .int .i64 0]) ∧ Gr w w'
theorem sign_bd (m : Int) : -1 ≤ m.sign ∧ m.sign ≤ 1 := by
  rcases Int.lt_trichotomy m 0 with hm | hm | hm
  · rw [Int.sign_eq_neg_one_of_neg hm]; omega
  · subst hm; decide
  · rw [Int.sign_eq_one_of_pos hm]; omega
set_option maxHeartbeats 2000000 in
theorem WCompare_c (w : World) (m n : Int) (hm : m.natAbs < YtlmdpamehhcblaaGreatDoorD.Lim) (hn : n.natAbs < YtlmdpamehhcblaaGreatDoorD.Lim) :
    Calls Tryz.prog 102 #[.string (bs (itoa m)), .string (bs (itoa n))] w (RetN (m - n).sign w) := by
  have HA := Lib.hid (fun w g h0 h1 => all2_c w g m n h0 h1 hm hn)
  have HS1 := Lib.hid (fun w => sign_c m w)
  have HS2 := Lib.hid (fun w => sign_c n w)
  have bm := sign_bd m
  have bn := sign_bd n
  obtain ⟨bm1, bm2⟩ := bm
  obtain ⟨bn1, bn2⟩ := bn
  have HT1 := Lib.hid (fun w => by have h := TrimPrefix_c w (itoa m) [45]; rw [trim_minus, YtlmdpamehhcblaaGreatDoorD.mag_itoa] at h; exact h : ∀ w, Calls Tryz.prog 73 #[.string (bs (itoa m)), .string (bs [45])] w fun e w' => e = .returned (.string (bs (decDigits m.natAbs))) ∧ w' = w)
  have HT2 := Lib.hid (fun w => by have h := TrimPrefix_c w (itoa n) [45]; rw [trim_minus, YtlmdpamehhcblaaGreatDoorD.mag_itoa] at h; exact h : ∀ w, Calls Tryz.prog 73 #[.string (bs (itoa n)), .string (bs [45])] w fun e w' => e = .returned (.string (bs (decDigits n.natAbs))) ∧ w' = w)
  have HO := Lib.hid (fun w => order_c w m.natAbs n.natAbs (by rw [YtlmdpamehhcblaaGreatDoorD.decDigits_len]; exact YtlmdpamehhcblaaGreatDoorD.nDigits_lim hm) (by rw [YtlmdpamehhcblaaGreatDoorD.decDigits_len]; exact YtlmdpamehhcblaaGreatDoorD.nDigits_lim hn))
  have ho := sign_bd ((m.natAbs : Int) - n.natAbs)
  obtain ⟨ho1, ho2⟩ := ho
  unfold RetN
  rcases Int.lt_trichotomy m.sign n.sign with h | h | h
  · rw [sign_lt h]
    clear HT1 HT2 HO ho1 ho2 hm hn
    generalize m.sign = sm at *
    generalize n.sign = sn at *
    generalize bs (itoa m) = s at *
    generalize bs (itoa n) = t at *
    go_enter Tryz.func102, Tryz.ntmps102
    go_wp2_with fail
    refine (HA.out _ _ (new2 w _ _ _).1 (new2 w _ _ _).2).mono ?_
    rintro e w1 ⟨rfl, hg1⟩
    go_wp2_with fail
    refine (HS1.out _).mono ?_
    rintro e w2 ⟨rfl, rfl⟩
    go_wp2_with fail
    refine (HS2.out _).mono ?_
    rintro e w2 ⟨rfl, rfl⟩
    go_wp2_with fail
    go_ret2
    exact ⟨rfl, ((Gr.refl w).alloc _).trans hg1⟩
  · have HE := Lib.hid (sign_mag m n h)
    have H := Lib.hid h
    have h1 : ¬ m.sign < n.sign := by omega
    have h2 : ¬ n.sign < m.sign := by omega
    rw [← HE.out]
    clear hm hn h HE
    have p1 : -1 ≤ m.sign * ((m.natAbs : Int) - n.natAbs).sign ∧ m.sign * ((m.natAbs : Int) - n.natAbs).sign ≤ 1 := by
      rcases (show m.sign = -1 ∨ m.sign = 0 ∨ m.sign = 1 by omega) with e | e | e <;> rw [e] <;> omega
    obtain ⟨p1, p2⟩ := p1
    generalize ((m.natAbs : Int) - n.natAbs).sign = so at *
    generalize decDigits m.natAbs = dm at *
    generalize decDigits n.natAbs = dn at *
    generalize m.sign = sm at *
    generalize n.sign = sn at *
    generalize bs (itoa m) = s at *
    generalize bs (itoa n) = t at *
    go_enter Tryz.func102, Tryz.ntmps102
    go_wp2_with fail
    refine (HA.out _ _ (new2 w _ _ _).1 (new2 w _ _ _).2).mono ?_
    rintro e w1 ⟨rfl, hg1⟩
    go_wp2_with fail
    refine (HS1.out _).mono ?_
    rintro e w2 ⟨rfl, rfl⟩
    go_wp2_with fail
    refine (HS2.out _).mono ?_
    rintro e w2 ⟨rfl, rfl⟩
    go_wp2_with fail
    refine (HS2.out _).mono ?_
    rintro e w2 ⟨rfl, rfl⟩
    go_wp2_with fail
    refine (HT1.out _).mono ?_
    rintro e w2 ⟨rfl, rfl⟩
    go_wp2_with fail
    refine (HT2.out _).mono ?_
    rintro e w2 ⟨rfl, rfl⟩
    go_wp2_with fail
    refine (HO.out _).mono ?_
    rintro e w2 ⟨rfl, rfl⟩
    go_wp2_with fail
    go_ret2
    exact ⟨rfl, ((Gr.refl w).alloc _).trans hg1⟩
  · have e1 : (m - n).sign = 1 := by
      have := sign_lt h
      rw [show m - n = -(n - m) by omega, Int.sign_neg, this]; rfl
    rw [e1]
    have h1 : ¬ m.sign < n.sign := by omega
    clear HT1 HT2 HO ho1 ho2 hm hn e1
    generalize m.sign = sm at *
    generalize n.sign = sn at *
    generalize bs (itoa m) = s at *
    generalize bs (itoa n) = t at *
    go_enter Tryz.func102, Tryz.ntmps102
    go_wp2_with fail
    refine (HA.out _ _ (new2 w _ _ _).1 (new2 w _ _ _).2).mono ?_
    rintro e w1 ⟨rfl, hg1⟩
    go_wp2_with fail
    refine (HS1.out _).mono ?_
    rintro e w2 ⟨rfl, rfl⟩
    go_wp2_with fail
    refine (HS2.out _).mono ?_
    rintro e w2 ⟨rfl, rfl⟩
    go_wp2_with fail
    refine (HS2.out _).mono ?_
    rintro e w2 ⟨rfl, rfl⟩
    go_wp2_with fail
    go_ret2
    exact ⟨rfl, ((Gr.refl w).alloc _).trans hg1⟩
end Go.Proofs.YtlmdpamehhcblaaGreatDoor
/- Contracts of package whole: parted (a divisor that is positive; a dividend that is not negative, or a multiple), Quo, Rem. -/
namespace Go.Proofs.YtlmdpamehhcblaaGreatDoor
open Go.RowKit
open Go.Lib (itoa decDigits)
open YtlmdpamehhcblaaGreatDoorV (wd nw B upd B_eq)

/-- A quotient, a rest, and no error. -/
def RetQ (q r : Int) (w : World) (e : Ending) (w' : World) : Prop := e = .returned (.tuple #[.string (bs (itoa q)), .string (bs (itoa r)), .int .i64 0]) ∧ Gr w w'
theorem tdiv_eq {m n : Int} (hn : 0 < n) (h : 0 ≤ m ∨ n ∣ m) : m.tdiv n = m / n ∧ m.tmod n = m % n := by
  rcases h with h | h
  · exact ⟨Int.tdiv_eq_ediv_of_nonneg h, Int.tmod_eq_emod_of_nonneg h⟩
  · obtain ⟨k, rfl⟩ := h
    rw [Int.mul_tdiv_cancel_left _ (by omega), Int.mul_ediv_cancel_left _ (by omega), Int.mul_tmod_right, Int.mul_emod_right]
    exact ⟨rfl, rfl⟩
set_option maxHeartbeats 2000000 in
set_option maxRecDepth 100000 in
theorem parted_small (w : World) (he : Env w) (m n : Int) (hm : m.natAbs < YtlmdpamehhcblaaGreatDoorD.Lim) (hn : n.natAbs < YtlmdpamehhcblaaGreatDoorD.Lim) (h0 : 0 < n) (hd : 0 ≤ m ∨ n ∣ m) (hs1 : isShort m = true) (hs2 : isShort n = true) :
    Calls Tryz.prog 201 #[.string (bs (itoa m)), .string (bs (itoa n))] w (RetQ (m / n) (m % n) w) := by
  have HA := Lib.hid (fun w g h0 h1 => all2_c w g m n h0 h1 hm hn)
  have HS := Lib.hid (fun w => small_yes w m n hs1 hs2)
  have b1 := short_bd hs1
  have b2 := short_bd hs2
  obtain ⟨b1, b3⟩ := b1
  obtain ⟨b2, b4⟩ := b2
  obtain ⟨t1, t2⟩ := tdiv_eq h0 hd
  have q1 : -1000000000 < m / n ∧ m / n < 1000000000 := by
    constructor
    · have : -999999999 ≤ m / n := (Int.le_ediv_iff_mul_le h0).2 (by omega)
      omega
    · exact Int.ediv_lt_of_lt_mul h0 (by omega)
  have r1 : 0 ≤ m % n := Int.emod_nonneg m (by omega)
  have r2 : m % n < n := Int.emod_lt_of_pos m h0
  obtain ⟨q1, q2⟩ := q1
  have HO1 := Lib.hid (fun w he => Of_c w he (m / n) (by omega) (by omega))
  have HO2 := Lib.hid (fun w he => Of_c w he (m % n) (by omega) (by omega))
  have hz : ((bs (itoa n)).toList == [48]) = false := by rw [itoa_zero_iff, decide_eq_false (by omega)]
  have hn0 : ¬ n < 0 := by omega
  have hnb : (n == 0) = false := by rw [beq_eq_false_iff_ne]; omega
  rw [← t1] at q1 q2 HO1
  rw [← t2] at r1 r2 HO2
  unfold RetQ
  rw [← t1, ← t2]
  clear hm hn hd hs1 hs2 t1 t2
  generalize hq : m.tdiv n = q at *
  generalize hr : m.tmod n = r at *
  generalize bs (itoa q) = sq at *
  generalize bs (itoa r) = sr at *
  generalize bs (itoa m) = s at *
  generalize bs (itoa n) = t at *
  have w1 : wrap64 q = q := IntWalk.wrap64_in q ⟨by omega, by omega⟩
  have w2 : IntKind.i64.wrap q = q := IntWalk.i64_in q ⟨by omega, by omega⟩
  have d1 : decide (r < 0) = false := decide_eq_false (by omega)
  have d2 : decide (n < 0) = false := decide_eq_false (by omega)
  by_cases hr0 : r = 0
  · have e1 : (r != 0) = false := by rw [bne_eq_false_iff_eq]; exact hr0
    have H0 := Lib.hid hr0; clear hr0
    go_enter Tryz.func201, Tryz.ntmps201
    go_wp2_with fail
    refine (HA.out _ _ (new2 w _ _ _).1 (new2 w _ _ _).2).mono ?_
    rintro e w1 ⟨rfl, hg1⟩
    have HG1 := Lib.hid (((Gr.refl w).alloc _).trans hg1)
    clear hg1
    go_wp2_with fail
    refine (HS.out _).mono ?_
    rintro e w2 ⟨rfl, hg2⟩
    have HG2 := Lib.hid (HG1.out.trans hg2)
    clear hg2
    go_wp2_with fail
    go_quiet (fail)
    have HG3 := Lib.hid (HG2.out.drewN nq)
    generalize w2.drewN nq = w3 at *
    go_wp2_with fail
    refine (HO1.out _ (he.gr HG3.out)).mono ?_
    rintro e w4 ⟨rfl, hg4⟩
    have HG4 := Lib.hid (HG3.out.trans hg4)
    clear hg4
    go_wp2_with fail
    refine (HO2.out _ (he.gr HG4.out)).mono ?_
    rintro e w5 ⟨rfl, hg5⟩
    go_wp2_with fail
    go_ret3
    exact ⟨rfl, HG4.out.trans hg5⟩
  · have e1 : (r != 0) = true := by rw [bne_iff_ne]; exact hr0
    go_enter Tryz.func201, Tryz.ntmps201
    go_wp2_with fail
    refine (HA.out _ _ (new2 w _ _ _).1 (new2 w _ _ _).2).mono ?_
    rintro e w1 ⟨rfl, hg1⟩
    have HG1 := Lib.hid (((Gr.refl w).alloc _).trans hg1)
    clear hg1
    go_wp2_with fail
    refine (HS.out _).mono ?_
    rintro e w2 ⟨rfl, hg2⟩
    have HG2 := Lib.hid (HG1.out.trans hg2)
    clear hg2
    go_wp2_with fail
    go_quiet (fail)
    have HG3 := Lib.hid (HG2.out.drewN nq)
    generalize w2.drewN nq = w3 at *
    go_wp2_with fail
    refine (HO1.out _ (he.gr HG3.out)).mono ?_
    rintro e w4 ⟨rfl, hg4⟩
    have HG4 := Lib.hid (HG3.out.trans hg4)
    clear hg4
    go_wp2_with fail
    refine (HO2.out _ (he.gr HG4.out)).mono ?_
    rintro e w5 ⟨rfl, hg5⟩
    go_wp2_with fail
    go_ret3
    exact ⟨rfl, HG4.out.trans hg5⟩
end Go.Proofs.YtlmdpamehhcblaaGreatDoor
/- Contracts of package whole: parted at large numbers, Quo, Rem. -/
namespace Go.Proofs.YtlmdpamehhcblaaGreatDoor
open Go.RowKit
open Go.Lib (itoa decDigits)
open YtlmdpamehhcblaaGreatDoorV (wd nw B upd B_eq)

theorem quo_text {m n : Int} (h0 : 0 < n) (hd : 0 ≤ m ∨ n ∣ m) : wint (decide (m < 0)) (m.natAbs / n.natAbs) = m / n ∧ wint (decide (m < 0)) (m.natAbs % n.natAbs) = m % n := by
  obtain ⟨v, rfl⟩ := Int.eq_ofNat_of_zero_le (show 0 ≤ n by omega)
  rcases (show m < 0 ∨ 0 ≤ m by omega) with h | h
  · have hd2 : (v : Int) ∣ m := by rcases hd with hd | hd; omega; exact hd
    obtain ⟨k, rfl⟩ := hd2
    have hk : k < 0 := by
      apply Int.lt_of_not_ge; intro hk
      have := Int.mul_nonneg (show 0 ≤ (v : Int) by omega) hk
      omega
    obtain ⟨j, hj⟩ : ∃ j : Nat, k = -(j : Int) := ⟨k.natAbs, by omega⟩
    subst hj
    rw [decide_eq_true h, Int.natAbs_mul, Int.natAbs_natCast, Int.natAbs_neg, Int.natAbs_natCast, Nat.mul_div_cancel_left _ (by omega), Nat.mul_mod_right, Int.mul_ediv_cancel_left _ (by omega), Int.mul_emod_right]
    unfold wint
    simp
  · obtain ⟨u, rfl⟩ := Int.eq_ofNat_of_zero_le h
    rw [decide_eq_false (by omega)]
    unfold wint
    simp
def w6z (W : World) (g : Nat) : Prop := W.cell? ⟨g, 1, none⟩ = some (.int .i64 ((0 : Nat) : Int))
set_option maxHeartbeats 4000000 in
set_option maxRecDepth 100000 in
theorem parted_big (w : World) (he : Env w) (m n : Int) (hm : m.natAbs < YtlmdpamehhcblaaGreatDoorD.Lim) (hn : n.natAbs < YtlmdpamehhcblaaGreatDoorD.Lim) (h0 : 0 < n) (hd : 0 ≤ m ∨ n ∣ m) (hs : isShort m = false ∨ isShort n = false) :
    Calls Tryz.prog 201 #[.string (bs (itoa m)), .string (bs (itoa n))] w (RetQ (m / n) (m % n) w) := by
  have HA := Lib.hid (fun w g h0 h1 => all2_c w g m n h0 h1 hm hn)
  have HS := Lib.hid (fun w => small_no w m n hs (by have := itoa_len_le hm; omega) (by have := itoa_len_le hn; omega))
  have HR1 := Lib.hid (fun w => read_c w m hm)
  have HR2 := Lib.hid (fun w => by have := read_c w n hn; rw [decide_eq_false (show ¬ n < 0 by omega)] at this; exact this : ∀ w, Calls Tryz.prog 103 #[.string (bs (itoa n))] w (NewW false n.natAbs w))
  have N1 := nw_le_of hm
  have N2 := nw_le_of hn
  have hz : ((bs (itoa n)).toList == [48]) = false := by rw [itoa_zero_iff, decide_eq_false (by omega)]
  obtain ⟨t1, t2⟩ := quo_text h0 hd
  have hY0 : n.natAbs ≠ 0 := by omega
  have hmd : nw (m.natAbs % n.natAbs) ≠ 0 → decide (m < 0) = false := by
    intro hne
    rcases hd with hd | hd
    · exact decide_eq_false (by omega)
    · exact absurd (by rw [Nat.mod_eq_zero_of_dvd (Int.natAbs_dvd_natAbs.2 hd), YtlmdpamehhcblaaGreatDoorV.nw_zero]) hne
  have hq := Nat.lt_of_le_of_lt (Nat.div_le_self m.natAbs n.natAbs) hm
  have hr := Nat.lt_of_le_of_lt (Nat.mod_le m.natAbs n.natAbs) hm
  have HQ := Lib.hid hq; have HR := Lib.hid hr; have HMD := Lib.hid hmd; have HY0 := Lib.hid hY0
  rw [← t1, ← t2]
  clear hm hn hs h0 hd t1 t2 hq hr hmd hY0
  unfold RetQ
  generalize decide (m < 0) = l1 at *
  generalize m.natAbs = u at *
  generalize n.natAbs = v at *
  generalize bs (itoa m) = s at *
  generalize bs (itoa n) = t at *
  rw [← wtext_wint, ← wtext_wint]
  go_enter Tryz.func201, Tryz.ntmps201
  go_wp2_with fail
  refine (HA.out _ _ (new2 w _ _ _).1 (new2 w _ _ _).2).mono ?_
  rintro e w1 ⟨rfl, hg1⟩
  have HG1 := Lib.hid (((Gr.refl w).alloc _).trans hg1)
  clear hg1
  go_wp2_with fail
  refine (HS.out _).mono ?_
  rintro e w2 ⟨rfl, hg2⟩
  have HG2 := Lib.hid (HG1.out.trans hg2)
  clear hg2
  go_wp2_with fail
  refine (HR1.out _).mono ?_
  rintro e w3 ⟨gx, rfl, hx0, hx, hg3⟩
  have HG3 := Lib.hid (HG2.out.trans hg3)
  have HX := Lib.hid hx
  have HX0 := Lib.hid (Nat.le_trans HG2.out.size hx0)
  clear hg3 hx hx0
  go_wp2_with fail
  refine (HR2.out _).mono ?_
  rintro e w4 ⟨gy, rfl, hy0, hy, hg4⟩
  have HG4 := Lib.hid (HG3.out.trans hg4)
  have HX4 := Lib.hid (HX.out.grow hg4)
  have HY := Lib.hid hy
  have HY1 := Lib.hid (Nat.le_trans HG3.out.size hy0)
  clear hg4 hy hy0
  go_wp2_with fail
  refine (divided_c _ gx gy l1 false u v HX4.out HY.out HY0.out (by omega) (by omega)).mono ?_
  rintro e w5 ⟨gq, gr, rfl, hq0, hr0, hqr, hq, hr, hg5⟩
  have HG5 := Lib.hid (HG4.out.trans hg5)
  have HX5 := Lib.hid (HX4.out.grow hg5)
  have HY5 := Lib.hid (HY.out.grow hg5)
  have hxq : gx ≠ gq := by have := HX4.out.1.lt; omega
  have hxr : gx ≠ gr := by have := HX4.out.1.lt; omega
  have hyq : gy ≠ gq := by have := HY.out.1.lt; omega
  have hyr : gy ≠ gr := by have := HY.out.1.lt; omega
  have HQ0 := Lib.hid (Nat.le_trans HG4.out.size hq0)
  have HR0 := Lib.hid (Nat.le_trans HG4.out.size hr0)
  have HQ5 := Lib.hid hq
  have HR5 := Lib.hid hr
  have x0 := HX5.out.1.c0
  have y0 := HY5.out.1.c0
  have q0 := hq.1.c0
  have r0 := hr.1.c0
  have fq0 := hq.1.fz 0
  have fr0 := hr.1.fz 0
  have hrq := Ne.symm hqr
  have hqx := Ne.symm hxq
  have hrx := Ne.symm hxr
  have hqy := Ne.symm hyq
  have hry := Ne.symm hyr
  clear hg5 hq hr hq0 hr0
  go_wp2_with fail
  go_region_held3 (fun w' => w'.cell? ⟨gx, 0, none⟩ = some (.bool l1) ∧ w'.cell? ⟨gy, 0, none⟩ = some (.bool false)) (go_keep) (fail)
  obtain ⟨W6, hW6⟩ : ∃ W6, W6 = ((w5.setCell ⟨gq, 0, none⟩ (.bool l1)).setCell ⟨gr, 0, none⟩ (.bool l1)).drew := ⟨_, rfl⟩
  rw [← hW6]
  have HQ6 := Lib.hid (show IsW W6 gq l1 (u / v) from by rw [hW6]; exact ⟨((HQ5.out.1.set0 l1).far hqr _).drew, HQ5.out.2⟩)
  have HR6 := Lib.hid (show IsW W6 gr l1 (u % v) from by rw [hW6]; exact ⟨((HR5.out.1.far hrq _).set0 l1).drew, HR5.out.2⟩)
  have HG6 := Lib.hid (show Gr w W6 from by rw [hW6]; exact ((HG5.out.setCell (p := ⟨gq, 0, none⟩) HQ0.out _).setCell (p := ⟨gr, 0, none⟩) HR0.out _).drew)
  have x6 : W6.cell? ⟨gx, 0, none⟩ = some (.bool l1) := by rw [hW6]; exact ((HX5.out.1.far hxq _).far hxr _).drew.c0
  have y6 : W6.cell? ⟨gy, 0, none⟩ = some (.bool false) := by rw [hW6]; exact ((HY5.out.1.far hyq _).far hyr _).drew.c0
  have r6 := HR6.out.1.c1
  clear hW6 x0 y0 q0 r0 fq0 fr0 hxq hxr hyq hyr hqr hrq hqx hrx hqy hry
  clear HG1 HG2 HG3 HG4 HG5 HX HX0 HX4 HX5 HY HY1 HY5 HQ0 HR0 HQ5 HR5 HA HS HR1 HR2 HY0 N1 N2 hz
  have key : w6z W6 gr ∨ (∃ k : Nat, W6.cell? ⟨gr, 1, none⟩ = some (.int .i64 ((k + 1 : Nat) : Int))) ∧ l1 = false := by
    by_cases hnz : nw (u % v) = 0
    · left; rw [hnz] at r6; exact r6
    · right; exact ⟨⟨nw (u % v) - 1, by rw [show nw (u % v) - 1 + 1 = nw (u % v) by omega]; exact r6⟩, HMD.out hnz⟩
  clear r6
  rcases key with r6 | ⟨⟨k, r6⟩, hl⟩
  · unfold w6z at r6
    go_wp2_with fail
    go_quiet (fail)
    go_wp2_with fail
    refine (text_c _ (he.gr (HG6.out.drewN nq)) gq l1 (u / v) (HQ6.out.drewN nq) HQ.out).mono ?_
    rintro e w7 ⟨rfl, hg7⟩
    have HG7 := Lib.hid ((HG6.out.drewN nq).trans hg7)
    have HR7 := Lib.hid ((HR6.out.drewN nq).grow hg7)
    clear hg7
    go_wp2_with fail
    refine (text_c _ (he.gr HG7.out) gr l1 (u % v) HR7.out HR.out).mono ?_
    rintro e w8 ⟨rfl, hg8⟩
    go_wp2_with fail
    go_ret3
    exact ⟨rfl, HG7.out.trans hg8⟩
  · subst hl
    go_wp2_with fail
    go_quiet (fail)
    go_wp2_with fail
    refine (text_c _ (he.gr (HG6.out.drewN nq)) gq false (u / v) (HQ6.out.drewN nq) HQ.out).mono ?_
    rintro e w7 ⟨rfl, hg7⟩
    have HG7 := Lib.hid ((HG6.out.drewN nq).trans hg7)
    have HR7 := Lib.hid ((HR6.out.drewN nq).grow hg7)
    clear hg7
    go_wp2_with fail
    refine (text_c _ (he.gr HG7.out) gr false (u % v) HR7.out HR.out).mono ?_
    rintro e w8 ⟨rfl, hg8⟩
    go_wp2_with fail
    go_ret3
    exact ⟨rfl, HG7.out.trans hg8⟩
end Go.Proofs.YtlmdpamehhcblaaGreatDoor
/- Contracts of package whole: Quo, Rem, Gcd. -/
namespace Go.Proofs.YtlmdpamehhcblaaGreatDoor
open Go.RowKit
open Go.Lib (itoa decDigits)
open YtlmdpamehhcblaaGreatDoorV (wd nw B upd B_eq)

theorem parted_c (w : World) (he : Env w) (m n : Int) (hm : m.natAbs < YtlmdpamehhcblaaGreatDoorD.Lim) (hn : n.natAbs < YtlmdpamehhcblaaGreatDoorD.Lim) (h0 : 0 < n) (hd : 0 ≤ m ∨ n ∣ m) :
    Calls Tryz.prog 201 #[.string (bs (itoa m)), .string (bs (itoa n))] w (RetQ (m / n) (m % n) w) := by
  cases h1 : isShort m with
  | false => exact parted_big w he m n hm hn h0 hd (.inl h1)
  | true =>
    cases h2 : isShort n with
    | false => exact parted_big w he m n hm hn h0 hd (.inr h2)
    | true => exact parted_small w he m n hm hn h0 hd h1 h2
theorem quo_lim {m n : Int} (hm : m.natAbs < YtlmdpamehhcblaaGreatDoorD.Lim) (h0 : 0 < n) (hd : 0 ≤ m ∨ n ∣ m) : (m / n).natAbs < YtlmdpamehhcblaaGreatDoorD.Lim := by
  rw [← (quo_text h0 hd).1, wint_abs]
  exact Nat.lt_of_le_of_lt (Nat.div_le_self _ _) hm
set_option maxHeartbeats 1000000 in
theorem Quo_c (w : World) (he : Env w) (m n : Int) (hm : m.natAbs < YtlmdpamehhcblaaGreatDoorD.Lim) (hn : n.natAbs < YtlmdpamehhcblaaGreatDoorD.Lim) (h0 : 0 < n) (hd : 0 ≤ m ∨ n ∣ m) :
    Calls Tryz.prog 137 #[.string (bs (itoa m)), .string (bs (itoa n))] w (RetI (m / n) w) := by
  have HP := Lib.hid (parted_c w he m n hm hn h0 hd)
  have HC := Lib.hid (fun w => Check_int w (m / n) (quo_lim hm h0 hd))
  clear hm hn h0 hd
  unfold RetI
  unfold RetQ at HP
  generalize bs (itoa (m / n)) = q at *
  generalize bs (itoa (m % n)) = r at *
  generalize bs (itoa m) = s at *
  generalize bs (itoa n) = t at *
  go_enter Tryz.func137, Tryz.ntmps137
  go_wp2_with fail
  refine HP.out.mono ?_
  rintro e w1 ⟨rfl, hg1⟩
  go_wp2_with fail
  refine (HC.out _).mono ?_
  rintro e w2 ⟨rfl, hg2⟩
  go_wp2_with fail
  go_ret2
  exact ⟨rfl, hg1.trans hg2⟩
set_option maxHeartbeats 1000000 in
theorem Rem_c (w : World) (he : Env w) (m n : Int) (hm : m.natAbs < YtlmdpamehhcblaaGreatDoorD.Lim) (hn : n.natAbs < YtlmdpamehhcblaaGreatDoorD.Lim) (h0 : 0 < n) (hd : 0 ≤ m ∨ n ∣ m) :
    Calls Tryz.prog 138 #[.string (bs (itoa m)), .string (bs (itoa n))] w (RetI (m % n) w) := by
  have HP := Lib.hid (parted_c w he m n hm hn h0 hd)
  clear hm hn h0 hd
  unfold RetI
  unfold RetQ at HP
  generalize bs (itoa (m / n)) = q at *
  generalize bs (itoa (m % n)) = r at *
  generalize bs (itoa m) = s at *
  generalize bs (itoa n) = t at *
  go_enter Tryz.func138, Tryz.ntmps138
  go_wp2_with fail
  refine HP.out.mono ?_
  rintro e w1 ⟨rfl, hg1⟩
  go_wp2_with fail
  go_ret2
  exact ⟨rfl, hg1⟩

theorem word_one {v : Nat} (h : nw v ≤ 1) : wd v 0 = v := YtlmdpamehhcblaaGreatDoorV.wd_one (by have := (YtlmdpamehhcblaaGreatDoorV.nw_le_iff v 1).1 h; rwa [Nat.pow_one] at this)
set_option maxHeartbeats 4000000 in
set_option maxRecDepth 100000 in
/-- The greatest common divisor; neither is asked to be other than 0. -/
theorem Gcd_c (w : World) (he : Env w) (m n : Int) (hm : m.natAbs < YtlmdpamehhcblaaGreatDoorD.Lim) (hn : n.natAbs < YtlmdpamehhcblaaGreatDoorD.Lim) :
    Calls Tryz.prog 184 #[.string (bs (itoa m)), .string (bs (itoa n))] w (RetI (Nat.gcd m.natAbs n.natAbs : Nat) w) := by
  have HA := Lib.hid (fun w g h0 h1 => all2_c w g m n h0 h1 hm hn)
  have HR1 := Lib.hid (fun w => read_c w m hm)
  have HR2 := Lib.hid (fun w => read_c w n hn)
  have HM := Lib.hid hm; have HN := Lib.hid hn
  clear hm hn
  unfold RetI
  generalize decide (m < 0) = l1 at *
  generalize decide (n < 0) = l2 at *
  generalize m.natAbs = u at *
  generalize n.natAbs = v at *
  generalize bs (itoa m) = s at *
  generalize bs (itoa n) = t at *
  go_enter Tryz.func184, Tryz.ntmps184
  go_wp2_with fail
  refine (HA.out _ _ (new2 w _ _ _).1 (new2 w _ _ _).2).mono ?_
  rintro e w1 ⟨rfl, hg1⟩
  have HG1 := Lib.hid (((Gr.refl w).alloc _).trans hg1)
  clear hg1
  go_wp2_with fail
  refine (HR1.out _).mono ?_
  rintro e w3 ⟨gx, rfl, hx0, hx, hg3⟩
  have HG3 := Lib.hid (HG1.out.trans hg3)
  have HX := Lib.hid hx
  have HX0 := Lib.hid (Nat.le_trans HG1.out.size hx0)
  clear hg3 hx hx0
  go_wp2_with fail
  refine (HR2.out _).mono ?_
  rintro e w4 ⟨gy, rfl, hy0, hy, hg4⟩
  have HG4 := Lib.hid (HG3.out.trans hg4)
  have HX4 := Lib.hid (HX.out.grow hg4)
  have HY := Lib.hid hy
  have HY0 := Lib.hid (Nat.le_trans HG3.out.size hy0)
  clear hg4 hy hy0
  go_wp2_with fail
  go_loopg [7, 8] v (fun b px py wr => ∃ (gx gy : Nat) (lx ly : Bool) (a : Nat), px = .pointer (some ⟨gx, 0, none⟩) ∧ py = .pointer (some ⟨gy, 0, none⟩) ∧ Aside ((w.heap.size ≤ gx ∧ w.heap.size ≤ gy) ∧ IsW wr gx lx a ∧ IsW wr gy ly b ∧ Nat.gcd a b = Nat.gcd u v ∧ a < YtlmdpamehhcblaaGreatDoorD.Lim ∧ b < YtlmdpamehhcblaaGreatDoorD.Lim ∧ Gr w wr))
  case atStart => exact ⟨gx, gy, l1, l2, u, rfl, rfl, ⟨HX0.out, HY0.out⟩, HX4.out, HY.out, rfl, HM.out, HN.out, HG4.out⟩
  case round =>
    clear HG1 HG3 HG4 HX HX0 HX4 HY HY0 HR1 HR2 HA
    obtain ⟨gx, gy, lx, ly, a, rfl, rfl, A⟩ := hrel
    have y1 := A.out.2.2.1.1.c1
    have x1 := A.out.2.1.1.c1
    have x0 := A.out.2.1.1.c0
    have xf := A.out.2.1.1.fz 0
    have nx := A.out.2.1.bd
    have ny := A.out.2.2.1.bd
    by_cases hb0 : nw gk = 0
    · have e0 : gk = 0 := YtlmdpamehhcblaaGreatDoorV.eq_zero_of_nw hb0
      have hgcd : a = Nat.gcd u v := by have := A.out.2.2.2.1; rw [e0, Nat.gcd_zero_right] at this; exact this
      rw [hb0] at y1
      have HGC := Lib.hid hgcd
      clear e0 hgcd hb0
      go_wp2_with fail
      have hW := (A.out.2.1.1.set0 false)
      refine (text_c _ (he.gr (A.out.2.2.2.2.2.2.setCell (p := ⟨gx, 0, none⟩) A.out.1.1 _)) gx false a ⟨hW, A.out.2.1.2⟩ A.out.2.2.2.2.1).mono ?_
      rintro e w5 ⟨rfl, hg5⟩
      have HG5 := Lib.hid ((A.out.2.2.2.2.2.2.setCell (p := ⟨gx, 0, none⟩) A.out.1.1 (.bool false)).trans hg5)
      clear hg5 hW
      rw [wtext_wint]
      have e1 : wint false a = ((Nat.gcd u v : Nat) : Int) := by rw [← HGC.out]; rfl
      rw [e1]
      go_wp2_with fail
      go_ret2
      exact ⟨rfl, HG5.out⟩
    · obtain ⟨k, hk⟩ : ∃ k, nw gk = k + 1 := ⟨nw gk - 1, by omega⟩
      rw [hk] at y1
      by_cases h1 : nw a ≤ 1 ∧ nw gk ≤ 1
      · obtain ⟨h1, h2⟩ := h1
        have ax := A.out.2.1.1.cw 0 (by omega)
        have ay := A.out.2.2.1.1.cw 0 (by omega)
        rw [word_one h1] at ax
        rw [word_one h2] at ay
        have ab : a < 1000000000 := by have := (YtlmdpamehhcblaaGreatDoorV.nw_le_iff a 1).1 h1; rw [Nat.pow_one, B_eq] at this; exact this
        have bb : gk < 1000000000 := by have := (YtlmdpamehhcblaaGreatDoorV.nw_le_iff gk 1).1 h2; rw [Nat.pow_one, B_eq] at this; exact this
        have hk0 : k = 0 := by omega
        subst hk0
        clear hk hb0
        go_wp2_with fail
        go_quiet (fail)
        have HG5 := Lib.hid (A.out.2.2.2.2.2.2.drewN nq)
        have HE := Lib.hid A.out.2.2.2.1
        clear A y1 x1 x0 xf ax ay nx ny
        generalize wr.drewN nq = w5 at *
        go_wp2_with fail
        go_loopg [9, 10] gk (fun N pm pn wi => ∃ M : Nat, pm = .int .i64 M ∧ pn = .int .i64 N ∧ M < 1000000000 ∧ N < 1000000000 ∧ Aside (Nat.gcd M N = Nat.gcd u v ∧ Gr w wi))
        case atStart => exact ⟨a, rfl, rfl, ab, bb, HE.out, HG5.out⟩
        case round =>
          obtain ⟨M, rfl, rfl, hM, hN, A⟩ := hrel
          by_cases hz : gk = 0
          · subst hz
            have e1 : M = Nat.gcd u v := by have := A.out.1; rwa [Nat.gcd_zero_right] at this
            have HE1 := Lib.hid e1
            have HO := Lib.hid (Of_c _ (he.gr A.out.2) (M : Int) (by omega) (by omega))
            clear e1 HE
            go_wp2_with fail
            refine HO.out.mono ?_
            rintro e w6 ⟨rfl, hg6⟩
            rw [HE1.out]
            go_wp2_with fail
            go_ret2
            exact ⟨rfl, A.out.2.trans hg6⟩
          · have hnz : ((gk : Int) != 0) = true := by rw [bne_iff_ne]; omega
            have hnz2 : ((gk : Int) == 0) = false := by rw [beq_eq_false_iff_ne]; omega
            have hml : M % gk < gk := Nat.mod_lt _ (by omega)
            have HM := Lib.hid hml
            clear hml
            go_wp2_with fail
            go_quiet (fail)
            go_wp2_with fail
            go_roundg (M % gk)
            case measure => exact HM.out
            case rel =>
              refine ⟨gk, rfl, ?_, hN, by have := HM.out; omega, ?_, A.out.2.drewN _⟩
              · go_num
              · rw [← A.out.1, Nat.gcd_comm M gk, Nat.gcd_rec gk M, Nat.gcd_comm]
      · have h2 : ¬ (nw a ≤ 1 ∧ nw gk ≤ 1) := h1
        have hb1 : gk ≠ 0 := fun e => hb0 (by rw [e, YtlmdpamehhcblaaGreatDoorV.nw_zero])
        have N1 := nw_le_of A.out.2.2.2.2.1
        have N2 := nw_le_of A.out.2.2.2.2.2.1
        have hmod : a % gk < gk := Nat.mod_lt _ (by omega)
        have key2 : ¬ nw a ≤ 1 ∨ (nw a ≤ 1 ∧ ¬ k + 1 ≤ 1) := by omega
        have HB1 := Lib.hid hb1
        have HMod := Lib.hid hmod
        clear h1 h2 hb1 hmod hb0
        rcases key2 with kk | ⟨kk1, kk2⟩
        · go_wp2_with fail
          refine (divided_c _ gx gy lx ly a gk A.out.2.1 A.out.2.2.1 HB1.out (by omega) (by omega)).mono ?_
          rintro e w5 ⟨gq, gr, rfl, hq0, hr0, hqr, hq, hr, hg5⟩
          have HG5 := Lib.hid (A.out.2.2.2.2.2.2.trans hg5)
          have HY5 := Lib.hid (A.out.2.2.1.grow hg5)
          have HR5 := Lib.hid hr
          have HL := Lib.hid A.out.2.2.2.2.2.1
          have HE := Lib.hid A.out.2.2.2.1
          have HS := Lib.hid (show w.heap.size ≤ gy ∧ w.heap.size ≤ gr from ⟨A.out.1.2, Nat.le_trans A.out.2.2.2.2.2.2.size hr0⟩)
          clear hg5 hq hr hq0 hr0 hqr A y1 x1 x0 xf
          go_wp2_with fail
          go_roundg (a % gk)
          case measure => exact HMod.out
          case rel => exact ⟨gy, gr, ly, false, gk, rfl, rfl, HS.out, HY5.out, HR5.out, by rw [← HE.out, Nat.gcd_comm a gk, Nat.gcd_rec gk a, Nat.gcd_comm], HL.out, Nat.lt_trans HMod.out HL.out, HG5.out⟩
        · go_wp2_with fail
          refine (divided_c _ gx gy lx ly a gk A.out.2.1 A.out.2.2.1 HB1.out (by omega) (by omega)).mono ?_
          rintro e w5 ⟨gq, gr, rfl, hq0, hr0, hqr, hq, hr, hg5⟩
          have HG5 := Lib.hid (A.out.2.2.2.2.2.2.trans hg5)
          have HY5 := Lib.hid (A.out.2.2.1.grow hg5)
          have HR5 := Lib.hid hr
          have HL := Lib.hid A.out.2.2.2.2.2.1
          have HE := Lib.hid A.out.2.2.2.1
          have HS := Lib.hid (show w.heap.size ≤ gy ∧ w.heap.size ≤ gr from ⟨A.out.1.2, Nat.le_trans A.out.2.2.2.2.2.2.size hr0⟩)
          clear hg5 hq hr hq0 hr0 hqr A y1 x1 x0 xf
          go_wp2_with fail
          go_roundg (a % gk)
          case measure => exact HMod.out
          case rel => exact ⟨gy, gr, ly, false, gk, rfl, rfl, HS.out, HY5.out, HR5.out, by rw [← HE.out, Nat.gcd_comm a gk, Nat.gcd_rec gk a, Nat.gcd_comm], HL.out, Nat.lt_trans HMod.out HL.out, HG5.out⟩
end Go.Proofs.YtlmdpamehhcblaaGreatDoor
