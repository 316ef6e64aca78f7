import Derived.Test.YtlmdpamehhcblaaGreatDoorWg
import Derived.Test.YtlmdpamehhcblaaGreatDoorPa
/- Contracts of package whole: read. -/
namespace Go.Proofs.YtlmdpamehhcblaaGreatDoor
open Go.RowKit
open Go.Lib (itoa decDigits)
open YtlmdpamehhcblaaGreatDoorV (wd nw B upd B_eq)
open YtlmdpamehhcblaaGreatDoorD (val isDig)

/-- The words that have been read. -/
def fl (v k : Nat) : Nat → Int := fun j => if j < k then (wd v j : Int) else 0
theorem fl_step (v i : Nat) : ∀ j, upd (fl v i) i (wd v i) j = fl v (i + 1) j := by
  intro j
  by_cases e : j = i
  · subst e; rw [YtlmdpamehhcblaaGreatDoorV.upd_same]; unfold fl; rw [if_pos (by omega)]
  · rw [YtlmdpamehhcblaaGreatDoorV.upd_other _ _ e]; unfold fl
    by_cases h : j < i
    · rw [if_pos h, if_pos (by omega)]
    · rw [if_neg h, if_neg (by omega)]
theorem nw_digits {D : List UInt8} (h : D.all isDig = true) (i : Nat) (hi : D.length ≤ 9 * i) : nw (val D) ≤ i := by
  apply (YtlmdpamehhcblaaGreatDoorV.nw_le_iff _ _).2
  have h1 := YtlmdpamehhcblaaGreatDoorD.val_lt h
  have h2 := Nat.pow_le_pow_right (n := 10) (by decide) hi
  have : B ^ i = 10 ^ (9 * i) := by rw [Nat.pow_mul]; rfl
  omega

theorem keep_store {wr w2 : World} {g i : Nat} {x v : Value} (hc : w2.cell? ⟨g, 1, none⟩ = some x) (hf : Fr g wr w2) :
    (w2.setCell ⟨g, 2 + i, none⟩ v).cell? ⟨g, 1, none⟩ = some x ∧ Fr g wr (w2.setCell ⟨g, 2 + i, none⟩ v) := by
  refine ⟨?_, hf.setCell rfl _⟩
  have h : (⟨g, 2 + i, none⟩ : Addr) ≠ ⟨g, 1, none⟩ := by intro e; injection e with _ e2 _; omega
  exact (World.cell?_setCell_other (h := h) ..).trans hc
set_option maxHeartbeats 4000000 in
set_option maxRecDepth 100000 in
theorem read_c (w : World) (n : Int) (hn : n.natAbs < YtlmdpamehhcblaaGreatDoorD.Lim) : Calls Tryz.prog 103 #[.string (bs (itoa n))] w (NewW (decide (n < 0)) n.natAbs w) := by
  have h0 := itoa_pos n
  have h2 := itoa_neg_iff n h0
  have hT := TrimPrefix_c
  have e1 := trim_minus (itoa n)
  rw [YtlmdpamehhcblaaGreatDoorD.mag_itoa] at e1
  have HT := Lib.hid (fun w => by have := hT w (itoa n) [45]; rw [e1] at this; exact this : ∀ w, Calls Tryz.prog 73 #[.string (bs (itoa n)), .string (bs [45])] w fun e w' => e = .returned (.string (bs (decDigits n.natAbs))) ∧ w' = w)
  have hall := YtlmdpamehhcblaaGreatDoorD.decDigits_all n.natAbs
  have hval := YtlmdpamehhcblaaGreatDoorD.val_decDigits n.natAbs
  have hlen : (decDigits n.natAbs).length ≤ 1024 := by
    rw [YtlmdpamehhcblaaGreatDoorD.decDigits_len]; exact YtlmdpamehhcblaaGreatDoorD.nDigits_lim hn
  have hD0 := YtlmdpamehhcblaaGreatDoorD.decDigits_ne n.natAbs
  clear hT e1
  generalize n.natAbs = v at *
  generalize decDigits v = D at *
  generalize bs (itoa n) = s at *
  have HA := Lib.hid hall; have HV := Lib.hid hval
  clear hall hval hD0 hn
  go_enter Tryz.func103, Tryz.ntmps103
  go_wp2_with fail
  refine (HT.out _).mono ?_
  rintro e w1 ⟨rfl, rfl⟩
  have Hn := Lib.hid (show WB (w.alloc (.cells (Tryz.zeroCells136.setIfInBounds 0 (.bool (decide (n < 0)))) 136)) w.heap.size (decide (n < 0)) 0 (fun _ => 0) from WB.new w _)
  have Hg := Lib.hid (show Gr w (w.alloc (.cells (Tryz.zeroCells136.setIfInBounds 0 (.bool (decide (n < 0)))) 136)) from (Gr.refl w).alloc _)
  go_wp2_with fail
  go_loopg [3] (D.length + 8) (fun k s wr => ∃ i : Nat, k + 9 * i = D.length + 8 ∧ s = .string (bs (D.take (D.length - 9 * i))) ∧ Aside (WB wr w.heap.size (decide (n < 0)) i (fl v i) ∧ Gr w wr))
  case atStart => exact ⟨0, rfl, by rw [Nat.mul_zero, Nat.sub_zero, List.take_length], Hn.out.ext (fun j _ => by unfold fl; rfl), Hg.out⟩
  case round =>
    obtain ⟨i, hk, rfl, A⟩ := hrel
    have hi : i ≤ 200 := by omega
    obtain ⟨m, hm⟩ : ∃ m, D.length - 9 * i = m := ⟨_, rfl⟩
    have hTl : (D.take m).length = m := by rw [List.length_take]; omega
    rw [hm]
    have hmb : m ≤ 1024 := by omega
    have HM := Lib.hid hm; clear hm
    have hchunk := YtlmdpamehhcblaaGreatDoorD.val_chunk D HA.out i
    rw [HM.out, HV.out] at hchunk
    have hcd : ((D.take m).drop (m - 9)).all isDig = true := by
      have := HA.out
      rw [List.all_eq_true] at *; intro x hx; exact this x (List.mem_of_mem_take (List.mem_of_mem_drop hx))
    have hcl : ((D.take m).drop (m - 9)).length ≤ 9 := by rw [List.length_drop, hTl]; omega
    have hc0 : m ≠ 0 → (D.take m).drop (m - 9) ≠ [] := fun h e => by have := congrArg List.length e; rw [List.length_drop, hTl] at this; simp at this; omega
    have hat : m ≠ 0 → Lib.atoiAll ((D.take m).drop (m - 9)) = .ok (wd v i : Int) := fun h => by rw [YtlmdpamehhcblaaGreatDoorD.atoi_digits (hc0 h) hcd (by omega), hchunk]
    have hx : (bs (D.take m)).extract (m - 9) m = bs ((D.take m).drop (m - 9)) := by
      rw [bs_extract]; congr 1; rw [List.take_of_length_le (by rw [List.length_drop, hTl]; omega)]
    have hy : (bs (D.take m)).extract 0 (m - 9) = bs (D.take (m - 9)) := by
      rw [bs_extract, List.drop_zero, Nat.sub_zero, List.take_take, Nat.min_eq_left (by omega)]
    have hsz : (bs (D.take m)).size = m := by rw [bs_size, hTl]
    have HAt := Lib.hid hat
    have Hcl := Lib.hid hcl
    have HX := Lib.hid hx; have HY := Lib.hid hy
    clear hTl hchunk hcd hcl hc0 hat
    have c1 := A.out.1.c1
    have f1 := A.out.1.fz 1
    have f2 := A.out.1.fz (2 + i)
    have c2 := A.out.1.cw i (by omega)
    have hi2 : (i : Int) < 232 := by omega
    have hmax : max (0 : Int) ((m : Int) - 9) = ((m - 9 : Nat) : Int) := by omega
    have b4 : m - 9 ≤ m := by omega
    by_cases hm : 0 < m
    · go_wp2_with fail
      go_region_held3 (fun w' => w'.cell? ⟨w.heap.size, 1, none⟩ = some (.int .i64 (i : Int)) ∧ Fr w.heap.size wr w')
        (first
          | exact ⟨c1, (Fr.refl _ _).drew⟩
          | exact ⟨cell_gr hg c1, (Fr.refl _ _).drew.trans (Fr.of hg.b)⟩
          | exact keep_store (g := w.heap.size) (cell_gr hg c1) ((Fr.refl _ _).drew.trans (Fr.of hg.b)))
        ((go_at_call 162; refine (Atoi_ok _ _ (by have := Hcl.out; omega) _ (HAt.out (by omega))).mono ?_; rintro e w2 ⟨rfl, hg⟩; have c5 := cell_gr hg c2; have f5 := fz_gr hg (p := ⟨w.heap.size, 2 + i, none⟩) A.out.1.lt f2))
      have HF := Lib.hid (show WB (w2.setCell ⟨w.heap.size, 2 + i, none⟩ (.int .i64 (wd v i))) w.heap.size (decide (n < 0)) i (upd (fl v i) i (wd v i)) from (A.out.1.drew.grow hg).setw i (by omega) _)
      have HG := Lib.hid (show Gr w (w2.setCell ⟨w.heap.size, 2 + i, none⟩ (.int .i64 (wd v i))) from (A.out.2.drew.trans hg).setCell (Nat.le_refl _) _)
      have d1 : (w2.setCell ⟨w.heap.size, 2 + i, none⟩ (.int .i64 (wd v i))).cell? ⟨w.heap.size, 1, none⟩ = some (.int .i64 (i : Int)) := HF.out.c1
      have d2 := HF.out.fz 1
      clear c1 f1 f2 c2 c5 f5 A
      generalize w2.setCell ⟨w.heap.size, 2 + i, none⟩ (.int .i64 (wd v i)) = w3 at *
      go_wp2_with fail
      go_roundg (gk - 9)
      case measure => have := HM.out; omega
      case rel =>
        refine ⟨i + 1, by have := HM.out; omega, ?_, ?_, ?_⟩
        · have := HM.out
          rw [show D.length - 9 * (i + 1) = m - 9 by omega]
        · have := (HF.out.set1 ((i + 1 : Nat) : Int)).ext (fun j _ => fl_step v i j)
          exact this
        · exact HG.out.setCell (Nat.le_refl _) _
    · obtain rfl : m = 0 := by omega
      have hnw : nw v ≤ i := by have := nw_digits HA.out i (by have := HM.out; omega); rwa [HV.out] at this
      go_wp2_with fail
      refine (trimmed_c _ w.heap.size (decide (n < 0)) i _ A.out.1 (by omega)).mono ?_
      rintro e w2 ⟨rfl, m, hm1, hm2, hm3, hm4, hF2⟩
      have ef : ∀ j, fl v i j = (wd v j : Int) := fun j => by
        unfold fl; split
        · rfl
        · rw [YtlmdpamehhcblaaGreatDoorV.wd_zero_of (by omega)]; rfl
      have em : m = nw v := YtlmdpamehhcblaaGreatDoorV.nw_eq (fun j hj => by
        by_cases h2 : j < i
        · have := hm3 j hj h2; rw [ef] at this; omega
        · exact YtlmdpamehhcblaaGreatDoorV.wd_zero_of (by omega)) (fun h2 => by have := hm4 h2; rw [ef] at this; omega)
      have Hq9 := Lib.hid (show IsW w2 w.heap.size (decide (n < 0)) v from by
        refine ⟨?_, (YtlmdpamehhcblaaGreatDoorV.nw_le_iff _ _).1 (by omega)⟩
        rw [← em]; exact hm2.ext (fun j _ => ef j))
      have Hg9 := Lib.hid (A.out.2.fr hF2 (Nat.le_refl _))
      clear ef em hm2 hm3 hm4 hF2 A
      go_wp2_with fail
      go_ret
      exact ⟨_, rfl, Nat.le_refl _, Hq9.out, Hg9.out⟩
end Go.Proofs.YtlmdpamehhcblaaGreatDoor
