import Derived.Test.YtlmdpamehhcblaaGreatDoorLj
/- Contracts of the reference of the lexer: letter, digit, Mark. -/
namespace Go.Proofs.YtlmdpamehhcblaaGreatDoor
open Go.RowKit Go.Shelf
open YtlmdpamehhcblaaGreatDoorD (isDig isLet cls marks spanN wlen nlen nfront werr nerr)

theorem spanN_le' (l : List Nat) (s : List UInt8) : spanN l s ≤ s.length := YtlmdpamehhcblaaGreatDoorD.spanN_le l s
theorem ret_bool {a b : Bool} (h : a = b) : Ending.returned (.bool a) = .returned (.bool b) := by rw [h]
set_option maxHeartbeats 1000000 in
theorem letter_c (w : World) (c : UInt8) : Calls Tryz.prog 194 #[.int .u8 (c.toNat : Int)] w fun e w' => e = .returned (.bool (isLet c)) ∧ w' = w := by
  have e : isLet c = decide ((97 ≤ c.toNat ∧ c.toNat ≤ 122) ∨ (65 ≤ c.toNat ∧ c.toNat ≤ 90)) := by
    unfold YtlmdpamehhcblaaGreatDoorD.isLet; rw [Bool.eq_iff_iff]; simp [UInt8.le_iff_toNat_le]
  rw [e]
  clear e
  generalize c.toNat = n
  rcases (show n < 65 ∨ (65 ≤ n ∧ n ≤ 90) ∨ (90 < n ∧ n < 97) ∨ (97 ≤ n ∧ n ≤ 122) ∨ 122 < n by omega) with h | h | h | h | h
  all_goals (
    obtain ⟨b, hb⟩ : ∃ b, b = decide ((97 ≤ n ∧ n ≤ 122) ∨ (65 ≤ n ∧ n ≤ 90)) := ⟨_, rfl⟩
    rw [← hb]
    have HB := Lib.hid hb
    clear hb
    go_enter Tryz.func194, Tryz.ntmps194
    go_wp2_with fail
    go_ret
    refine ⟨ret_bool ?_, rfl⟩
    have := HB.out
    subst this
    rw [Bool.eq_iff_iff]
    simp
    omega)
set_option maxHeartbeats 1000000 in
theorem digit_c (w : World) (c : UInt8) : Calls Tryz.prog 195 #[.int .u8 (c.toNat : Int)] w fun e w' => e = .returned (.bool (isDig c)) ∧ w' = w := by
  have e : isDig c = decide (48 ≤ c.toNat ∧ c.toNat ≤ 57) := by
    unfold YtlmdpamehhcblaaGreatDoorD.isDig; rw [Bool.eq_iff_iff]; simp
  rw [e]
  clear e
  generalize c.toNat = n
  rcases (show n < 48 ∨ (48 ≤ n ∧ n ≤ 57) ∨ 57 < n by omega) with h | h | h
  all_goals (
    obtain ⟨b, hb⟩ : ∃ b, b = decide (48 ≤ n ∧ n ≤ 57) := ⟨_, rfl⟩
    rw [← hb]
    have HB := Lib.hid hb
    clear hb
    go_enter Tryz.func195, Tryz.ntmps195
    go_wp2_with fail
    go_ret
    refine ⟨ret_bool ?_, rfl⟩
    have := HB.out
    subst this
    rw [Bool.eq_iff_iff]
    simp
    try omega)
theorem mark_cls (c : UInt8) : marks.contains c = decide (cls c = 4) := by
  have key : (List.range 256).all (fun n => marks.contains (UInt8.ofNat n) == decide (cls (UInt8.ofNat n) = 4)) = true := by kernel_rfl
  have h := List.all_eq_true.1 key c.toNat (List.mem_range.2 (UInt8.toNat_lt c))
  rw [show UInt8.ofNat c.toNat = c by simp] at h
  exact eq_of_beq h
theorem mark_step (j : Nat) (hj : j < marks.length) (c : UInt8) : (marks.take (j + 1)).contains c = ((marks.take j).contains c || c == marks[j]) := by
  rw [List.take_add_one, List.getElem?_eq_getElem hj]
  simp only [List.contains_eq_mem, List.mem_append, Option.toList_some, List.mem_singleton]
  rw [Bool.eq_iff_iff]
  simp
theorem mark_get (j : Nat) (hj : j < (bs marks).size) (c : UInt8) : ((((bs marks)[j]'hj).toNat : Int) == (c.toNat : Int)) = (c == marks[j]'(by rw [bs_size] at hj; exact hj)) := by
  have hj2 : j < marks.length := by rw [bs_size] at hj; exact hj
  have e : (bs marks)[j]'hj = marks[j]'hj2 := rfl
  rw [e]
  generalize marks[j] = d
  rw [Bool.eq_iff_iff, beq_iff_eq, beq_iff_eq]
  constructor
  · intro h; exact (UInt8.toNat_inj.1 (by omega)).symm
  · intro h; rw [h]
theorem mark_step' (j : Nat) (hj : j < (bs marks).size) (c : UInt8) : (marks.take (j + 1)).contains c = ((marks.take j).contains c || ((((bs marks)[j]'hj).toNat : Int) == (c.toNat : Int))) := by
  rw [mark_step j (by rw [bs_size] at hj; exact hj), mark_get j hj]
theorem mem_take {l : List UInt8} {j : Nat} {c : UInt8} (h : (l.take j).contains c = true) : l.contains c = true := by
  simp only [List.contains_eq_mem, decide_eq_true_eq] at h ⊢
  exact List.mem_of_mem_take h
set_option maxHeartbeats 1000000 in
theorem Mark_c (w : World) (c : UInt8) : Calls Tryz.prog 154 #[.int .u8 (c.toNat : Int)] w fun e w' => e = .returned (.bool (marks.contains c)) ∧ w' = w := by
  have e1 : bs marks = { data := #[44, 59, 58, 40, 41, 91, 93, 61, 43, 45, 42, 47, 60, 62, 124, 35] } := rfl
  have hsz : (bs marks).size = 16 := rfl
  have HS := Lib.hid (fun j hj => mark_step' j hj c)
  have HA := Lib.hid (show marks.take 16 = marks from rfl)
  go_enter Tryz.func154, Tryz.ntmps154
  go_wp2_with fail
  rw [← e1]
  clear e1
  generalize hMM : marks = M at *
  have HQ := Lib.hid hMM
  clear hMM
  go_loopg [3] 16 (fun N i wr => ∃ j : Nat, N + j = 16 ∧ i = .int .i64 j ∧ Aside ((M.take j).contains c = false) ∧ wr = w)
  case atStart => exact ⟨0, rfl, rfl, rfl, rfl⟩
  case round =>
    obtain ⟨j, hj, rfl, A, rfl⟩ := hrel
    by_cases hlt : j < 16
    · have hz : j < (bs M).size := by omega
      have s := HS.out j hz
      rw [A.out, Bool.false_or] at s
      cases hb : (M.take (j + 1)).contains c with
      | true =>
        rw [hb] at s
        have HM := Lib.hid (mem_take hb)
        clear hb A
        replace s := s.symm
        go_wp2_with fail
        go_ret
        exact ⟨by rw [HQ.out, HM.out]; rfl, rfl⟩
      | false =>
        rw [hb] at s
        have HM := Lib.hid hb
        clear hb A
        replace s := s.symm
        go_wp2_with fail
        go_roundg (gk - 1)
        case measure => omega
        case rel => exact ⟨j + 1, by omega, by go_num, HM.out, rfl⟩
    · have hj6 : j = 16 := by omega
      subst hj6
      have hh := A.out
      rw [HA.out] at hh
      have HM := Lib.hid hh
      clear hh A
      go_wp2_with fail
      go_ret
      exact ⟨by rw [HQ.out, HM.out]; rfl, rfl⟩
theorem let_cls (c : UInt8) : isLet c = decide (cls c = 1) := by
  unfold YtlmdpamehhcblaaGreatDoorD.cls
  cases h : isLet c with
  | true => simp
  | false =>
    simp only [Bool.false_eq_true, if_false]
    symm
    rw [decide_eq_false_iff_not]
    repeat' split
    all_goals decide
theorem dig_cls (c : UInt8) : isDig c = decide (cls c = 2) := by
  cases h : isDig c with
  | true => rw [YtlmdpamehhcblaaGreatDoorD.isDig_cls h]; rfl
  | false =>
    symm
    rw [decide_eq_false_iff_not]
    intro h2
    rw [YtlmdpamehhcblaaGreatDoorD.cls_dig h2] at h; cases h
theorem line_cls (c : UInt8) : (((c.toNat : Nat) : Int) == 95) = decide (cls c = 3) := by
  have key : (List.range 256).all (fun n => (((UInt8.ofNat n).toNat : Int) == 95) == decide (cls (UInt8.ofNat n) = 3)) = true := by kernel_rfl
  have h := List.all_eq_true.1 key c.toNat (List.mem_range.2 (UInt8.toNat_lt c))
  rw [show UInt8.ofNat c.toNat = c by simp] at h
  exact eq_of_beq h
theorem word_cls (c : UInt8) : [1, 2, 3].contains (cls c) = (isLet c || (isDig c || (((c.toNat : Nat) : Int) == 95))) := by
  rw [let_cls, dig_cls, line_cls, Bool.eq_iff_iff]
  simp
theorem wlen_at (s : List UInt8) (hz : 0 < (bs s).size) : wlen s = if isLet ((bs s)[0]'hz) = true then spanN [1, 2, 3] s else 0 := by
  unfold YtlmdpamehhcblaaGreatDoorD.wlen
  rw [let_cls, get0_cls s hz]
  simp
set_option maxHeartbeats 2000000 in
theorem wordly_c (w : World) (s : List UInt8) (hs : s.length ≤ 4611686018427387904) : Calls Tryz.prog 117 #[.string (bs s)] w fun e w' => e = .returned (.int .i64 (wlen s : Nat)) ∧ w' = w := by
  have hsz := bs_size s
  have HL := Lib.hid letter_c
  have HD := Lib.hid digit_c
  have HW := Lib.hid word_cls
  have H0 := Lib.hid (fun hz => wlen_at s hz)
  have HN := Lib.hid (fun j h hj hin => runs_next [1, 2, 3] s j h hj hin)
  have HX := Lib.hid (fun j h hj hin => runs_stop [1, 2, 3] s j h hj hin)
  have HE := Lib.hid (show s = [] → wlen s = 0 by rintro rfl; decide)
  have hle := spanN_le' [1, 2, 3] s
  generalize spanN [1, 2, 3] s = K at *
  generalize wlen s = R at *
  go_enter Tryz.func117, Tryz.ntmps117
  go_wp2_with fail
  go_loopg [3] s.length (fun N i wr => ∃ j : Nat, N + j = s.length ∧ i = .int .i64 j ∧ Aside (j = 0 ∨ (R = K ∧ j ≤ K)) ∧ wr = w)
  case atStart => exact ⟨0, rfl, rfl, .inl rfl, rfl⟩
  case round =>
    obtain ⟨j, hj, rfl, A, rfl⟩ := hrel
    by_cases hlt : j < s.length
    · have hz : j < (bs s).size := by omega
      have HWj := Lib.hid (HW.out ((bs s)[j]'hz))
      have HLj := Lib.hid (fun w => HL.out w ((bs s)[j]'hz))
      have HDj := Lib.hid (fun w => HD.out w ((bs s)[j]'hz))
      have HNj := Lib.hid (HN.out j hlt)
      have HXj := Lib.hid (HX.out j hlt)
      have HAj := Lib.hid (show ∀ h0 : j = 0, R = if isLet ((bs s)[j]'hz) = true then K else 0 from fun h0 => by subst h0; exact H0.out hz)
      generalize hc : (bs s)[j]'hz = c at *
      rcases Nat.eq_zero_or_pos j with h0 | hp
      · subst h0
        have hR := HAj.out rfl
        cases hl : isLet c with
        | true =>
          rw [hl, if_pos rfl] at hR
          rw [hl] at HLj HWj
          have H1 := Lib.hid (HNj.out (Nat.zero_le _) (by rw [HWj.out]; rfl))
          have HR := Lib.hid hR
          clear hR hl A
          go_wp2_with fail
          refine (HLj.out _).mono ?_
          rintro e w1 ⟨rfl, rfl⟩
          go_wp2_with fail
          go_roundg (gk - 1)
          case measure => omega
          case rel => exact ⟨1, by omega, rfl, .inr ⟨HR.out, H1.out⟩, rfl⟩
        | false =>
          rw [hl, if_neg (by simp)] at hR
          rw [hl] at HLj
          have HR := Lib.hid hR
          clear hR hl A
          go_wp2_with fail
          refine (HLj.out _).mono ?_
          rintro e w1 ⟨rfl, rfl⟩
          go_wp2_with fail
          go_ret
          exact ⟨by rw [HR.out]; rfl, rfl⟩
      · have hj0 : (0 : Int) < (j : Int) := by omega
        have hA : R = K ∧ j ≤ K := by rcases A.out with h | h; omega; exact h
        have HA := Lib.hid hA
        clear A hA
        have hb := HWj.out
        cases hl : isLet c with
        | true =>
          rw [hl] at HLj hb
          have H1 := Lib.hid (HNj.out HA.out.2 hb)
          clear hl hb
          go_wp2_with fail
          refine (HLj.out _).mono ?_
          rintro e w1 ⟨rfl, rfl⟩
          go_wp2_with fail
          go_roundg (gk - 1)
          case measure => omega
          case rel => exact ⟨j + 1, by omega, by go_num, .inr ⟨HA.out.1, H1.out⟩, rfl⟩
        | false =>
          rw [hl] at HLj hb
          rw [Bool.false_or] at hb
          cases hd : isDig c with
          | true =>
            rw [hd] at HDj hb
            have H1 := Lib.hid (HNj.out HA.out.2 hb)
            clear hl hb hd
            go_wp2_with fail
            refine (HLj.out _).mono ?_
            rintro e w1 ⟨rfl, rfl⟩
            go_wp2_with fail
            refine (HDj.out _).mono ?_
            rintro e w1 ⟨rfl, rfl⟩
            go_wp2_with fail
            go_roundg (gk - 1)
            case measure => omega
            case rel => exact ⟨j + 1, by omega, by go_num, .inr ⟨HA.out.1, H1.out⟩, rfl⟩
          | false =>
            rw [hd] at HDj hb
            rw [Bool.false_or] at hb
            cases h9 : ((c.toNat : Int) == 95) with
            | true =>
              rw [h9] at hb
              have H1 := Lib.hid (HNj.out HA.out.2 hb)
              clear hl hb hd
              go_wp2_with fail
              refine (HLj.out _).mono ?_
              rintro e w1 ⟨rfl, rfl⟩
              go_wp2_with fail
              refine (HDj.out _).mono ?_
              rintro e w1 ⟨rfl, rfl⟩
              go_wp2_with fail
              go_roundg (gk - 1)
              case measure => omega
              case rel => exact ⟨j + 1, by omega, by go_num, .inr ⟨HA.out.1, H1.out⟩, rfl⟩
            | false =>
              rw [h9] at hb
              have H1 := Lib.hid (HXj.out HA.out.2 hb)
              clear hl hb hd
              go_wp2_with fail
              refine (HLj.out _).mono ?_
              rintro e w1 ⟨rfl, rfl⟩
              go_wp2_with fail
              refine (HDj.out _).mono ?_
              rintro e w1 ⟨rfl, rfl⟩
              go_wp2_with fail
              go_ret
              exact ⟨by rw [HA.out.1, H1.out]; rfl, rfl⟩
    · have hje : j = s.length := by omega
      have HR : Hid (R = j) := by
        rcases A.out with h | ⟨h, h2⟩
        · exact Lib.hid (by rw [HE.out (List.eq_nil_of_length_eq_zero (by omega)), h])
        · exact Lib.hid (by omega)
      clear A
      go_wp2_with fail
      go_ret
      exact ⟨by rw [HR.out]; rfl, rfl⟩
theorem nf_next (s : List UInt8) (a j : Nat) (h : a + j < (bs s).size) (hj : j ≤ nfront (s.drop a)) (hd : isDig ((bs s)[a + j]'h) = true) : j + 1 ≤ nfront (s.drop a) := by
  have hl : a + j < s.length := by rw [bs_size] at h; exact h
  rcases Nat.lt_or_ge j (nfront (s.drop a)) with h2 | h2
  · exact h2
  · have e : nfront (s.drop a) = j := by omega
    have hlt : j < (s.drop a).length := by rw [List.length_drop]; omega
    have := YtlmdpamehhcblaaGreatDoorD.spanN_at [2] (s.drop a) (by unfold nfront at e; omega)
    unfold nfront at e
    simp only [e, List.getElem_drop] at this
    have hd' : isDig s[a + j] = true := hd
    rw [YtlmdpamehhcblaaGreatDoorD.isDig_cls hd'] at this; cases this
theorem nf_stop (s : List UInt8) (a j : Nat) (h : a + j < (bs s).size) (hj : j ≤ nfront (s.drop a)) (hd : isDig ((bs s)[a + j]'h) = false) : nfront (s.drop a) = j := by
  rcases Nat.lt_or_ge j (nfront (s.drop a)) with h2 | h2
  · unfold nfront at h2
    obtain ⟨h3, h4⟩ := YtlmdpamehhcblaaGreatDoorD.spanN_in [2] (s.drop a) j h2
    rw [List.getElem_drop] at h4
    simp only [List.contains_eq_mem, List.mem_singleton, decide_eq_true_eq] at h4
    have := YtlmdpamehhcblaaGreatDoorD.cls_dig h4
    have hd' : isDig s[a + j] = false := hd
    exact absurd (this.symm.trans hd') (by simp)
  · omega
set_option maxHeartbeats 2000000 in
theorem digits_c (w : World) (s : List UInt8) (a : Nat) (hs : s.length ≤ 4611686018427387904) (ha : a ≤ s.length) : Calls Tryz.prog 120 #[.string (bs s), .int .i64 a] w fun e w' => e = .returned (.int .i64 (nfront (s.drop a) : Nat)) ∧ w' = w := by
  have hsz := bs_size s
  have HD := Lib.hid digit_c
  have HN := Lib.hid (nf_next s a)
  have HX := Lib.hid (nf_stop s a)
  have hle : nfront (s.drop a) ≤ s.length - a := by have := YtlmdpamehhcblaaGreatDoorD.nfront_le (s.drop a); rwa [List.length_drop] at this
  generalize nfront (s.drop a) = K at *
  go_enter Tryz.func120, Tryz.ntmps120
  go_wp2_with fail
  go_loopg [5] s.length (fun N i wr => ∃ j : Nat, N + j = s.length ∧ i = .int .i64 j ∧ Aside (j ≤ K) ∧ wr = w)
  case atStart => exact ⟨0, rfl, rfl, Nat.zero_le _, rfl⟩
  case round =>
    obtain ⟨j, hj, rfl, A, rfl⟩ := hrel
    have hK := A.out
    have hwr : IntKind.i64.wrap ((a : Int) + (j : Int)) = ((a + j : Nat) : Int) := (IntWalk.i64_in _ (by omega)).trans (by omega)
    by_cases hlt : a + j < s.length
    · have hz : a + j < (bs s).size := by omega
      have HDj := Lib.hid (fun w => HD.out w ((bs s)[a + j]'hz))
      have HNj := Lib.hid (HN.out j hz hK)
      have HXj := Lib.hid (HX.out j hz hK)
      generalize hc : (bs s)[a + j]'hz = c at *
      cases hd : isDig c with
      | true =>
        have H1 := Lib.hid (HNj.out hd)
        rw [hd] at HDj
        clear hd
        go_wp2_with fail
        refine (HDj.out _).mono ?_
        rintro e w1 ⟨rfl, rfl⟩
        go_wp2_with fail
        go_roundg (gk - 1)
        case measure => omega
        case rel => exact ⟨j + 1, by omega, by go_num, H1.out, rfl⟩
      | false =>
        have H1 := Lib.hid (HXj.out hd)
        rw [hd] at HDj
        clear hd
        go_wp2_with fail
        refine (HDj.out _).mono ?_
        rintro e w1 ⟨rfl, rfl⟩
        go_wp2_with fail
        go_ret
        exact ⟨by rw [H1.out]; rfl, rfl⟩
    · have H1 : Hid (K = j) := Lib.hid (by omega)
      go_wp2_with fail
      go_ret
      exact ⟨by rw [H1.out]; rfl, rfl⟩
end Go.Proofs.YtlmdpamehhcblaaGreatDoor
