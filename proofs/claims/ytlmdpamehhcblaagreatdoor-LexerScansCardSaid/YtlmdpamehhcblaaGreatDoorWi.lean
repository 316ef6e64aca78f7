import Derived.Test.YtlmdpamehhcblaaGreatDoorWh
import Derived.Test.YtlmdpamehhcblaaGreatDoorBld
/- Contracts of package whole: text, limited. -/
namespace Go.Proofs.YtlmdpamehhcblaaGreatDoor
open Go.RowKit
open Go.Lib (itoa decDigits)
open YtlmdpamehhcblaaGreatDoorV (wd nw B upd B_eq)
open YtlmdpamehhcblaaGreatDoorD (padDigits)

theorem sum_lt_pow {v n : Nat} (h : nw v ≤ n) : v < 10 ^ (9 * n) := by
  have := (YtlmdpamehhcblaaGreatDoorV.nw_le_iff v n).1 h
  have e : B ^ n = 10 ^ (9 * n) := by rw [Nat.pow_mul]; rfl
  rwa [e] at this
theorem pad_word (u : Nat) (h : u < B) : (bs [48, 48, 48, 48, 48, 48, 48, 48, 48]).extract (decDigits u).length 9 ++ bs (decDigits u) = bs (padDigits 9 u) := by
  rw [bs_extract, bs_append, YtlmdpamehhcblaaGreatDoorD.padDigits_eq 9 u (by decide) h]
  congr 2
  have hl : (decDigits u).length ≤ 9 := by rw [YtlmdpamehhcblaaGreatDoorD.decDigits_len]; exact (YtlmdpamehhcblaaGreatDoorD.nDigits_le_iff _ _ (by decide)).2 h
  generalize (decDigits u).length = m at *
  have : [48, 48, 48, 48, 48, 48, 48, 48, 48] = List.replicate 9 (48 : UInt8) := rfl
  rw [this, List.drop_replicate, List.take_replicate, Nat.min_self]
theorem dec_word (v i : Nat) (h : v / B ^ (i + 1) ≠ 0) : decDigits (v / B ^ (i + 1)) ++ padDigits 9 (wd v i) = decDigits (v / B ^ i) := by
  rw [YtlmdpamehhcblaaGreatDoorV.div_succ v i]
  exact (YtlmdpamehhcblaaGreatDoorD.decDigits_chunk 9 _ _ h (YtlmdpamehhcblaaGreatDoorV.wd_lt v i)).symm
theorem dec_top {v : Nat} (h : v ≠ 0) : decDigits (v / B ^ (nw v - 1)) = decDigits (wd v (nw v - 1)) := by
  congr 1
  have e := YtlmdpamehhcblaaGreatDoorV.div_succ v (nw v - 1)
  rw [show nw v - 1 + 1 = nw v by have := YtlmdpamehhcblaaGreatDoorV.nw_ne_zero h; omega, Nat.div_eq_of_lt (YtlmdpamehhcblaaGreatDoorV.lt_pow_nw v)] at e
  omega
theorem dec_len_le {v : Nat} (h : v < YtlmdpamehhcblaaGreatDoorD.Lim) : (decDigits v).length ≤ 1024 := by rw [YtlmdpamehhcblaaGreatDoorD.decDigits_len]; exact YtlmdpamehhcblaaGreatDoorD.nDigits_lim h
theorem Itoa_nat (w : World) (he : Env w) (u : Nat) (h : u ≤ 9223372036854775807) :
    Calls Tryz.prog 34 #[.int .i64 u] w fun e w' => e = .returned (.string (bs (decDigits u))) ∧ Gr w w' := by
  have := Itoa_c w he (u : Int) (by omega) (by omega)
  rwa [YtlmdpamehhcblaaGreatDoorD.itoa_nat] at this
/-- The text of a number with a sign. -/
def wtext (l : Bool) (v : Nat) : List UInt8 := if v = 0 then [48] else (if l then [45] else []) ++ decDigits v

set_option maxHeartbeats 4000000 in
set_option maxRecDepth 100000 in
theorem text_c (w : World) (he : Env w) (g : Nat) (l : Bool) (v : Nat) (hw : IsW w g l v) (hv : v < YtlmdpamehhcblaaGreatDoorD.Lim) :
    Calls Tryz.prog 183 #[.pointer (some ⟨g, 0, none⟩)] w fun e w' => e = .returned (.string (bs (wtext l v))) ∧ Gr w w' := by
  have c1 := hw.1.c1
  have c0 := hw.1.c0
  have hlt := hw.1.lt
  have hnb := hw.bd
  have HW := Lib.hid hw; clear hw
  have HV := Lib.hid hv; clear hv
  by_cases h0 : v = 0
  · have e : wtext l v = [48] := by unfold wtext; rw [if_pos h0]
    have hn : nw v = 0 := by rw [h0, YtlmdpamehhcblaaGreatDoorV.nw_zero]
    rw [e]
    have hz : ((nw v : Int) == 0) = true := by rw [hn]; rfl
    clear hn h0 e
    go_enter Tryz.func183, Tryz.ntmps183
    go_wp2_with fail
    go_ret
    exact ⟨rfl, Gr.refl _⟩
  · have e : wtext l v = (if l then [45] else []) ++ decDigits v := by unfold wtext; rw [if_neg h0]
    have hn := YtlmdpamehhcblaaGreatDoorV.nw_ne_zero h0
    have H0 := Lib.hid h0; clear h0
    rw [e]
    obtain ⟨m, hm⟩ : ∃ m, nw v = m + 1 := ⟨nw v - 1, by omega⟩
    have hdt := dec_top H0.out
    rw [hm] at c1 hnb
    have hz : (((m + 1 : Nat) : Int) == 0) = false := by rw [beq_eq_false_iff_ne]; omega
    rw [hm, Nat.add_sub_cancel] at hdt
    have HDT := Lib.hid hdt
    have HM := Lib.hid hm
    clear hm hn hdt e
    have ct := HW.out.1.cw m (by omega)
    have hwt := YtlmdpamehhcblaaGreatDoorV.wd_lt v m
    rw [B_eq] at hwt
    have HS := Lib.hid (show ∀ w', Gr w w' → (w'.cell? ⟨g, 1, none⟩ = some (.int .i64 ((m + 1 : Nat) : Int)) ∧ w'.cell? ⟨g, 2 + (m), none⟩ = some (.int .i64 (wd v (m) : Int)) ∧ Gr w w') from fun w' h => ⟨cell_gr h c1, cell_gr h ct, h⟩)
    have HDl := Lib.hid (dec_len_le HV.out)
    have hw18 : wd v (m) ≤ 9223372036854775807 := by omega
    have Htop := Lib.hid (show (decDigits (wd v m)).length ≤ 9 by rw [YtlmdpamehhcblaaGreatDoorD.decDigits_len]; exact (YtlmdpamehhcblaaGreatDoorD.nDigits_le_iff _ _ (by decide)).2 (by simpa using hwt))
    have i1 : (0 : Int) ≤ (m : Int) := by omega
    have i2 : (m : Int) < 232 := by omega
    have i3 : m < 232 := by omega
    have i4 : IntKind.i64.wrap (m : Int) = m := IntWalk.i64_in _ (by omega)
    have i5 : IntKind.i64.wrap ((m : Int) + 1 - 1) = m := by rw [Int.add_sub_cancel]; exact i4
    have i6 : IntKind.i64.wrap (((m + 1 : Nat) : Int) - 1) = m := by rw [show ((m + 1 : Nat) : Int) - 1 = m by omega]; exact i4
    cases l with
    | true =>
      go_enter Tryz.func183, Tryz.ntmps183
      go_wp2_with fail
      refine (WriteByte_c _ w.heap.size w.heap.size [] 45 (by decide) (Bd.new w) (by simp) (by simp)).mono ?_
      rintro e W0 ⟨rfl, hB0, hb0⟩
      have HB0 := Lib.hid (show Bd W0 w.heap.size w.heap.size [45] from hB0)
      have Hg0 := Lib.hid (show Gr w W0 from ((Gr.refl w).alloc _).trans_below hb0 (Nat.le_refl _))
      clear hB0 hb0
      go_wp2_with fail
      go_region_held3 (fun w' => w'.cell? ⟨g, 1, none⟩ = some (.int .i64 ((m + 1 : Nat) : Int)) ∧ w'.cell? ⟨g, 2 + (m), none⟩ = some (.int .i64 (wd v (m) : Int)) ∧ Gr w w')
        (first
          | exact HS.out _ Hg0.out.drew
          | exact HS.out _ (Hg0.out.drew.trans hg1)
          | exact HS.out _ ((Hg0.out.drew.trans hg1).trans_below hb2 (Nat.le_refl _)))
        ((first
          | (go_at_call 34; refine (Itoa_nat _ (he.gr Hg0.out.drew) _ hw18).mono ?_; rintro e w2 ⟨rfl, hg1⟩)
          | (go_at_call 127; refine (WriteString_c _ w.heap.size w.heap.size [45] (decDigits (wd v m)) (HB0.out.below (Gr.trans ((Gr.refl _).drew) hg1)) (Hg0.out.drew.trans hg1).size ?_).mono ?_; (have := HDl.out; have := Htop.out; simp only [List.length_cons, List.length_nil]; omega); rintro e w3 ⟨rfl, hB2, hb2⟩)))
      have Hg1 := Lib.hid ((Hg0.out.drew.trans hg1).trans_below hb2 (Nat.le_refl _))
      have HB1 := Lib.hid hB2
      clear hg1 hb2 hB2
      go_wp2_with fail
      go_loopg [4] (m) (fun k i wr => i = .int .i64 ((k : Int) - 1) ∧ k ≤ m ∧ Aside (Bd wr w.heap.size w.heap.size ([45] ++ decDigits (v / B ^ k)) ∧ Gr w wr))
      case atStart =>
        refine ⟨by go_num, Nat.le_refl _, ?_, Hg1.out⟩
        have := HB1.out
        rwa [← HDT.out] at this
      case round =>
        obtain ⟨rfl, hk, A⟩ := hrel
        by_cases hk0 : gk = 0
        · subst hk0
          go_wp2_with fail
          refine (String_c _ w.heap.size w.heap.size _ A.out.1 A.out.2.size).mono ?_
          rintro e w4 ⟨rfl, hB4, hb4⟩
          go_wp2_with fail
          go_ret
          refine ⟨?_, A.out.2.trans_below hb4 (Nat.le_refl _)⟩
          simp
        · obtain ⟨i, rfl⟩ : ∃ i, gk = i + 1 := ⟨gk - 1, by omega⟩
          have ci := cell_gr A.out.2 (HW.out.1.cw i (by omega))
          have hwi := YtlmdpamehhcblaaGreatDoorV.wd_lt v i
          rw [B_eq] at hwi
          have hpad := pad_word (wd v i) (by rw [B_eq]; exact hwi)
          have hpl : (bs (decDigits (wd v i))).size = (decDigits (wd v i)).length := bs_size _
          have hpl9 : (decDigits (wd v i)).length ≤ 9 := by rw [YtlmdpamehhcblaaGreatDoorD.decDigits_len]; exact (YtlmdpamehhcblaaGreatDoorD.nDigits_le_iff _ _ (by decide)).2 (by simpa using hwi)
          go_wp2_with fail
          refine (Itoa_nat _ (he.gr A.out.2) _ (by omega)).mono ?_
          rintro e w4 ⟨rfl, hg4⟩
          have Hg4 := Lib.hid (A.out.2.trans hg4)
          have HB4 := Lib.hid (A.out.1.below hg4)
          clear hg4 A ci
          go_wp2_with fail
          have hpad2 : ({ data := #[48, 48, 48, 48, 48, 48, 48, 48, 48] } : ByteArray).extract (decDigits (wd v i)).length 9 ++ bs (decDigits (wd v i)) = bs (padDigits 9 (wd v i)) := hpad
          rw [hpad2]
          refine (WriteString_c _ w.heap.size w.heap.size _ (padDigits 9 (wd v i)) HB4.out Hg4.out.size ?_).mono ?_
          · rw [YtlmdpamehhcblaaGreatDoorD.padDigits_length, List.length_append]
            have h1 : (decDigits (v / B ^ (i + 1))).length ≤ 1024 := dec_len_le (Nat.lt_of_le_of_lt (Nat.div_le_self _ _) HV.out)
            simp only [List.length_cons, List.length_nil]
            omega
          rintro e w5 ⟨rfl, hB5, hb5⟩
          have Hg5 := Lib.hid (Hg4.out.trans_below hb5 (Nat.le_refl _))
          have hne : v / B ^ (i + 1) ≠ 0 := by
            have h1 := YtlmdpamehhcblaaGreatDoorV.pow_le_of_nw H0.out
            rw [HM.out, Nat.add_sub_cancel] at h1
            have h2 := Nat.pow_le_pow_right YtlmdpamehhcblaaGreatDoorV.B_pos (show i + 1 ≤ m by omega)
            have := Nat.div_pos (Nat.le_trans h2 h1) (YtlmdpamehhcblaaGreatDoorV.Bp_pos (i + 1))
            omega
          rw [List.append_assoc, dec_word v i hne] at hB5
          have HB5 := Lib.hid hB5
          clear hB5 hb5 hne hpad hpad2
          go_wp2_with fail
          go_roundg i
          case measure => omega
          case rel => exact ⟨by go_num, by omega, HB5.out, Hg5.out⟩
    | false =>
      go_enter Tryz.func183, Tryz.ntmps183
      go_wp2_with fail
      obtain ⟨W0, hW0⟩ : ∃ W0, W0 = w.alloc (.cells #[.pointer none, .slice none 0 0] 151) := ⟨_, rfl⟩
      have HB0 := Lib.hid (show Bd W0 w.heap.size w.heap.size [] by rw [hW0]; exact Bd.new w)
      have Hg0 := Lib.hid (show Gr w W0 by rw [hW0]; exact (Gr.refl w).alloc _)
      rw [← hW0]
      clear hW0
      go_region_held3 (fun w' => w'.cell? ⟨g, 1, none⟩ = some (.int .i64 ((m + 1 : Nat) : Int)) ∧ w'.cell? ⟨g, 2 + (m), none⟩ = some (.int .i64 (wd v (m) : Int)) ∧ Gr w w')
        (first
          | exact HS.out _ Hg0.out.drew
          | exact HS.out _ (Hg0.out.drew.trans hg1)
          | exact HS.out _ ((Hg0.out.drew.trans hg1).trans_below hb2 (Nat.le_refl _)))
        ((first
          | (go_at_call 34; refine (Itoa_nat _ (he.gr Hg0.out.drew) _ hw18).mono ?_; rintro e w2 ⟨rfl, hg1⟩)
          | (go_at_call 127; refine (WriteString_c _ w.heap.size w.heap.size [] (decDigits (wd v m)) (HB0.out.below (Gr.trans ((Gr.refl _).drew) hg1)) (Hg0.out.drew.trans hg1).size ?_).mono ?_; (have := HDl.out; have := Htop.out; rw [List.length_nil]; omega); rintro e w3 ⟨rfl, hB2, hb2⟩)))
      have Hg1 := Lib.hid ((Hg0.out.drew.trans hg1).trans_below hb2 (Nat.le_refl _))
      have HB1 := Lib.hid hB2
      clear hg1 hb2 hB2
      go_wp2_with fail
      go_loopg [4] (m) (fun k i wr => i = .int .i64 ((k : Int) - 1) ∧ k ≤ m ∧ Aside (Bd wr w.heap.size w.heap.size ([] ++ decDigits (v / B ^ k)) ∧ Gr w wr))
      case atStart =>
        refine ⟨by go_num, Nat.le_refl _, ?_, Hg1.out⟩
        have := HB1.out
        rwa [← HDT.out] at this
      case round =>
        obtain ⟨rfl, hk, A⟩ := hrel
        by_cases hk0 : gk = 0
        · subst hk0
          go_wp2_with fail
          refine (String_c _ w.heap.size w.heap.size _ A.out.1 A.out.2.size).mono ?_
          rintro e w4 ⟨rfl, hB4, hb4⟩
          go_wp2_with fail
          go_ret
          refine ⟨?_, A.out.2.trans_below hb4 (Nat.le_refl _)⟩
          simp
        · obtain ⟨i, rfl⟩ : ∃ i, gk = i + 1 := ⟨gk - 1, by omega⟩
          have ci := cell_gr A.out.2 (HW.out.1.cw i (by omega))
          have hwi := YtlmdpamehhcblaaGreatDoorV.wd_lt v i
          rw [B_eq] at hwi
          have hpad := pad_word (wd v i) (by rw [B_eq]; exact hwi)
          have hpl : (bs (decDigits (wd v i))).size = (decDigits (wd v i)).length := bs_size _
          have hpl9 : (decDigits (wd v i)).length ≤ 9 := by rw [YtlmdpamehhcblaaGreatDoorD.decDigits_len]; exact (YtlmdpamehhcblaaGreatDoorD.nDigits_le_iff _ _ (by decide)).2 (by simpa using hwi)
          go_wp2_with fail
          refine (Itoa_nat _ (he.gr A.out.2) _ (by omega)).mono ?_
          rintro e w4 ⟨rfl, hg4⟩
          have Hg4 := Lib.hid (A.out.2.trans hg4)
          have HB4 := Lib.hid (A.out.1.below hg4)
          clear hg4 A ci
          go_wp2_with fail
          have hpad2 : ({ data := #[48, 48, 48, 48, 48, 48, 48, 48, 48] } : ByteArray).extract (decDigits (wd v i)).length 9 ++ bs (decDigits (wd v i)) = bs (padDigits 9 (wd v i)) := hpad
          rw [hpad2]
          refine (WriteString_c _ w.heap.size w.heap.size _ (padDigits 9 (wd v i)) HB4.out Hg4.out.size ?_).mono ?_
          · rw [YtlmdpamehhcblaaGreatDoorD.padDigits_length, List.length_append]
            have h1 : (decDigits (v / B ^ (i + 1))).length ≤ 1024 := dec_len_le (Nat.lt_of_le_of_lt (Nat.div_le_self _ _) HV.out)
            rw [List.length_nil]
            omega
          rintro e w5 ⟨rfl, hB5, hb5⟩
          have Hg5 := Lib.hid (Hg4.out.trans_below hb5 (Nat.le_refl _))
          have hne : v / B ^ (i + 1) ≠ 0 := by
            have h1 := YtlmdpamehhcblaaGreatDoorV.pow_le_of_nw H0.out
            rw [HM.out, Nat.add_sub_cancel] at h1
            have h2 := Nat.pow_le_pow_right YtlmdpamehhcblaaGreatDoorV.B_pos (show i + 1 ≤ m by omega)
            have := Nat.div_pos (Nat.le_trans h2 h1) (YtlmdpamehhcblaaGreatDoorV.Bp_pos (i + 1))
            omega
          rw [List.append_assoc, dec_word v i hne] at hB5
          have HB5 := Lib.hid hB5
          clear hB5 hb5 hne hpad hpad2
          go_wp2_with fail
          go_roundg i
          case measure => omega
          case rel => exact ⟨by go_num, by omega, HB5.out, Hg5.out⟩
end Go.Proofs.YtlmdpamehhcblaaGreatDoor
