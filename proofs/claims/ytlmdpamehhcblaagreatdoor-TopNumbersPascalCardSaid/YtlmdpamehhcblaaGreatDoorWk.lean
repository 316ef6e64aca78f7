import Derived.Test.YtlmdpamehhcblaaGreatDoorWj
/- Contracts of package whole: Mul, opposite, Compare. -/
namespace Go.Proofs.YtlmdpamehhcblaaGreatDoor
open Go.RowKit
open Go.Lib (itoa decDigits)
open YtlmdpamehhcblaaGreatDoorV (wd nw B upd B_eq)

theorem nw_le_of {v : Nat} (h : v < YtlmdpamehhcblaaGreatDoorD.Lim) : nw v ≤ 114 := by
  apply (YtlmdpamehhcblaaGreatDoorV.nw_le_iff _ _).2
  have h2 : ∀ k, k = 114 → v < B ^ k := fun k hk => by
    have e : B ^ k = 10 ^ (9 * k) := by rw [Nat.pow_mul]; rfl
    rw [e]
    exact Nat.lt_of_lt_of_le h (YtlmdpamehhcblaaGreatDoorD.le_lim (by omega))
  exact h2 114 rfl
theorem all2_c (w : World) (g : Nat) (m n : Int) (h0 : w.cell? ⟨g, 0, none⟩ = some (.string (bs (itoa m)))) (h1 : w.cell? ⟨g, 1, none⟩ = some (.string (bs (itoa n)))) (hm : m.natAbs < YtlmdpamehhcblaaGreatDoorD.Lim) (hn : n.natAbs < YtlmdpamehhcblaaGreatDoorD.Lim) :
    Calls Tryz.prog 111 #[.slice (some ⟨g, 0, none⟩) 2 2] w (RetE 0 w) :=
  all_c w g 0 2 [m, n] (fun j hj => by
    match j, hj with
    | 0, _ => exact h0
    | 1, _ => exact h1) (by simp) (fun x hx => by
    simp only [List.mem_cons, List.not_mem_nil, or_false] at hx
    rcases hx with rfl | rfl
    · exact hm
    · exact hn)
theorem new2 (w : World) (a b : Value) (t : TypeId) : (w.alloc (.cells #[a, b] t)).cell? ⟨w.heap.size, 0, none⟩ = some a ∧ (w.alloc (.cells #[a, b] t)).cell? ⟨w.heap.size, 1, none⟩ = some b := by
  have h : (w.alloc (.cells #[a, b] t)).heap[w.heap.size]? = some (.cells #[a, b] t) := heap_alloc_new w _
  constructor <;> (unfold World.cell?; rw [h]; rfl)
set_option maxHeartbeats 2000000 in
theorem Mul_c (w : World) (he : Env w) (m n : Int) (hm : m.natAbs < YtlmdpamehhcblaaGreatDoorD.Lim) (hn : n.natAbs < YtlmdpamehhcblaaGreatDoorD.Lim) (hmn : (m * n).natAbs < YtlmdpamehhcblaaGreatDoorD.Lim) :
    Calls Tryz.prog 113 #[.string (bs (itoa m)), .string (bs (itoa n))] w (RetI (m * n) w) := by
  have HA := Lib.hid (fun w g h0 h1 => all2_c w g m n h0 h1 hm hn)
  have HR1 := Lib.hid (fun w => read_c w m hm)
  have HR2 := Lib.hid (fun w => read_c w n hn)
  have lm := itoa_len_le hm
  have ln := itoa_len_le hn
  have N1 := nw_le_of hm
  have N2 := nw_le_of hn
  have HN := Lib.hid hmn
  by_cases hs : isShort m = true ∧ isShort n = true
  · have HS := Lib.hid (fun w => small_yes w m n hs.1 hs.2)
    have b1 := short_bd hs.1
    have b2 := short_bd hs.2
    have hb : -1000000000000000000 ≤ m * n ∧ m * n ≤ 1000000000000000000 := by
      have x1 : (m * n).natAbs ≤ 1000000000 * 1000000000 := by rw [Int.natAbs_mul]; exact Nat.mul_le_mul (by omega) (by omega)
      omega
    have hb1 := hb.1
    have hb2 := hb.2
    have HQ := Lib.hid (fun w he => result_c w he (m * n) (by omega) (by omega))
    clear hm hn hmn N1 N2 lm ln hs hb b1 b2
    unfold RetI at *
    generalize bs (itoa (m * n)) = r at *
    generalize bs (itoa m) = s at *
    generalize bs (itoa n) = t at *
    go_enter Tryz.func113, Tryz.ntmps113
    go_wp2_with fail
    refine (HA.out _ _ (new2 w _ _ _).1 (new2 w _ _ _).2).mono ?_
    rintro e w1 ⟨rfl, hg1⟩
    have HG1 := Lib.hid (((Gr.refl w).alloc _).trans hg1)
    clear hg1
    go_wp2_with fail
    refine (HS.out _).mono ?_
    rintro e w2 ⟨rfl, hg2⟩
    have HG2 := Lib.hid (HG1.out.trans hg2)
    clear hg2
    go_wp2_with fail
    refine (HQ.out _ (he.gr HG2.out)).mono ?_
    rintro e w3 ⟨rfl, hg3⟩
    go_wp2_with fail
    go_ret2
    exact ⟨rfl, HG2.out.trans hg3⟩
  · have hs2 : isShort m = false ∨ isShort n = false := by
      cases ha : isShort m <;> cases hb : isShort n <;> simp_all
    have HS := Lib.hid (fun w => small_no w m n hs2 (by omega) (by omega))
    have e1 : wint (decide (m < 0) != decide (n < 0)) (m.natAbs * n.natAbs) = m * n := by
      unfold wint
      rcases (show m < 0 ∨ 0 ≤ m by omega) with h1 | h1 <;> rcases (show n < 0 ∨ 0 ≤ n by omega) with h2 | h2
      · rw [decide_eq_true h1, decide_eq_true h2, Int.natCast_mul, show (m.natAbs : Int) = -m by omega, show (n.natAbs : Int) = -n by omega, Int.neg_mul_neg]; rfl
      · rw [decide_eq_true h1, decide_eq_false (by omega), Int.natCast_mul, show (m.natAbs : Int) = -m by omega, show (n.natAbs : Int) = n by omega, Int.neg_mul, Int.neg_neg]; rfl
      · rw [decide_eq_false (by omega), decide_eq_true h2, Int.natCast_mul, show (m.natAbs : Int) = m by omega, show (n.natAbs : Int) = -n by omega, Int.mul_neg, Int.neg_neg]; rfl
      · rw [decide_eq_false (by omega), decide_eq_false (by omega), Int.natCast_mul, show (m.natAbs : Int) = m by omega, show (n.natAbs : Int) = n by omega]; rfl
    rw [← e1]
    have hb : m.natAbs * n.natAbs < YtlmdpamehhcblaaGreatDoorD.Lim := by rw [← Int.natAbs_mul]; exact hmn
    have HB := Lib.hid hb
    clear hs hs2 e1 hb hm hn hmn lm ln
    generalize decide (m < 0) = l1 at *
    generalize decide (n < 0) = l2 at *
    generalize m.natAbs = u at *
    generalize n.natAbs = v at *
    generalize bs (itoa m) = s at *
    generalize bs (itoa n) = t at *
    go_enter Tryz.func113, Tryz.ntmps113
    go_wp2_with fail
    refine (HA.out _ _ (new2 w _ _ _).1 (new2 w _ _ _).2).mono ?_
    rintro e w1 ⟨rfl, hg1⟩
    have HG1 := Lib.hid (((Gr.refl w).alloc _).trans hg1)
    clear hg1
    go_wp2_with fail
    refine (HS.out _).mono ?_
    rintro e w2 ⟨rfl, hg2⟩
    have HG2 := Lib.hid (HG1.out.trans hg2)
    clear hg2
    go_wp2_with fail
    refine (HR1.out _).mono ?_
    rintro e w3 ⟨gx, rfl, hx0, hx, hg3⟩
    have HG3 := Lib.hid (HG2.out.trans hg3)
    have HX := Lib.hid hx
    clear hg3 hx hx0
    go_wp2_with fail
    refine (HR2.out _).mono ?_
    rintro e w4 ⟨gy, rfl, hy0, hy, hg4⟩
    have HG4 := Lib.hid (HG3.out.trans hg4)
    have HX4 := Lib.hid (HX.out.grow hg4)
    have HY := Lib.hid hy
    clear hg4 hy hy0
    go_wp2_with fail
    refine (times_c _ gx gy l1 l2 u v HX4.out HY.out (by omega)).mono ?_
    rintro e w5 ⟨gz, rfl, hz0, hz, hg5⟩
    have HG5 := Lib.hid (HG4.out.trans hg5)
    have HZ := Lib.hid hz
    clear hg5 hz hz0
    go_wp2_with fail
    refine (limited_c _ (he.gr HG5.out) gz _ _ HZ.out HB.out).mono ?_
    rintro e w6 ⟨rfl, hg6⟩
    go_wp2_with fail
    go_ret2
    exact ⟨rfl, HG5.out.trans hg6⟩
end Go.Proofs.YtlmdpamehhcblaaGreatDoor
