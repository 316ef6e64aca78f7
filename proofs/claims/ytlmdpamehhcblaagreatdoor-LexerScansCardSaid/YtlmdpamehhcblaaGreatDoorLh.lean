import Derived.Test.YtlmdpamehhcblaaGreatDoorLg
import Derived.Test.YtlmdpamehhcblaaGreatDoorPb
import Derived.Test.YtlmdpamehhcblaaGreatDoorRq
/- Contracts of the lexer: Value, finite. -/
namespace Go.Proofs.YtlmdpamehhcblaaGreatDoor
open Go.RowKit Go.Shelf
open Go.Lib (itoa decDigits)
open YtlmdpamehhcblaaGreatDoorD (isDig val rtext nerr valT vfront vback Q stripN fin)

theorem rep48 (k : Nat) : Lib.repeatL [48] k = List.replicate k 48 := by
  induction k with
  | zero => rfl
  | succ k ih => show [48] ++ Lib.repeatL [48] k = _; rw [ih]; rfl
theorem val_reps (k : Nat) : val (List.replicate k 48) = 0 := by
  induction k with
  | zero => exact YtlmdpamehhcblaaGreatDoorD.val_nil
  | succ k ih => rw [List.replicate_succ, YtlmdpamehhcblaaGreatDoorD.val_cons, ih]; simp
theorem ten_text (k : Nat) : 49 :: List.replicate k 48 = decDigits (10 ^ k) := by
  have hall : (49 :: List.replicate k (48 : UInt8)).all isDig = true := by
    rw [List.all_eq_true]
    intro x hx
    rcases List.mem_cons.1 hx with rfl | hx
    · decide
    · rw [(List.mem_replicate.1 hx).2]; decide
  have hn := YtlmdpamehhcblaaGreatDoorD.natural_of hall (by simp) (.inr (by simp))
  have hv : val (49 :: List.replicate k 48) = 10 ^ k := by
    rw [YtlmdpamehhcblaaGreatDoorD.val_cons, val_reps, List.length_replicate]; simp
  rw [← hv, YtlmdpamehhcblaaGreatDoorD.decDigits_val hn]
theorem trimL_val : ∀ l : List UInt8, l.all isDig = true → (Lib.trimLeftS l [48] = [] → val l = 0) ∧ (Lib.trimLeftS l [48] ≠ [] → Lib.trimLeftS l [48] = decDigits (val l))
  | [], _ => ⟨fun _ => YtlmdpamehhcblaaGreatDoorD.val_nil, fun h => absurd rfl h⟩
  | c :: l, h => by
    rw [List.all_cons, Bool.and_eq_true] at h
    have ih := trimL_val l h.2
    by_cases hc : c = 48
    · subst hc
      have e : Lib.trimLeftS (48 :: l) [48] = Lib.trimLeftS l [48] := by
        unfold Lib.trimLeftS; rw [List.dropWhile_cons]; rfl
      have ev : val (48 :: l) = val l := by rw [YtlmdpamehhcblaaGreatDoorD.val_cons]; simp
      rw [e, ev]; exact ih
    · have e : Lib.trimLeftS (c :: l) [48] = c :: l := by
        unfold Lib.trimLeftS; rw [List.dropWhile_cons, if_neg]
        simp [hc]
      rw [e]
      refine ⟨fun x => by simp at x, fun _ => ?_⟩
      exact (YtlmdpamehhcblaaGreatDoorD.decDigits_val (YtlmdpamehhcblaaGreatDoorD.natural_of (by rw [List.all_cons, h.1, h.2]; rfl) (by simp) (.inr (by simp [hc])))).symm
/-- The text of the value of a number's text. -/
def valV (s : List UInt8) : List UInt8 := if nerr s = 0 then rtext (valT s) else []
/-- What Value returns. -/
def RetVal (s : List UInt8) (w : World) (e : Ending) (w' : World) : Prop := e = .returned (.tuple #[.string (bs (valV s)), .int .i64 (nerr s : Nat)]) ∧ Gr w w'
theorem pow24 {k : Nat} (h : k ≤ 24) : 10 ^ k < YtlmdpamehhcblaaGreatDoorD.Lim := Nat.lt_of_lt_of_le (Nat.pow_lt_pow_right (by decide) (show k < 25 by omega)) (YtlmdpamehhcblaaGreatDoorD.lim_le (by decide))
set_option maxHeartbeats 2000000 in
theorem Value_c (w : World) (he : Env w) (s : List UInt8) (hs : s.length ≤ 4611686018427387904) : Calls Tryz.prog 60 #[.string (bs s)] w (RetVal s w) := by
  have HN := Lib.hid (LNumber_c w s hs)
  unfold RetVal
  by_cases h : nerr s = 0
  · obtain ⟨a, b, ha, hb, a0, a1, hf, hbk, hss, hl⟩ := YtlmdpamehhcblaaGreatDoorD.nerr_parts h
    have hab : a.length + b.length ≤ 24 := by
      rcases hss with ⟨rfl, rfl⟩ | ⟨_, rfl⟩
      · simp at hl ⊢; exact hl
      · simp at hl; omega
    have C1 := fun w he => Cut_c w he s [46] (by omega)
    simp only [YtlmdpamehhcblaaGreatDoorD.cut_eq] at C1
    unfold vfront at hf
    unfold vback at hbk
    rw [hf, hbk] at C1
    have hall : (a ++ b).all isDig = true := by rw [List.all_append, ha, hb]; rfl
    have T := fun w => TrimLeft_c w (a ++ b) [48] (by decide) (by decide)
    obtain ⟨t0, t1⟩ := trimL_val (a ++ b) hall
    have hN : val (a ++ b) < YtlmdpamehhcblaaGreatDoorD.Lim := by
      have := YtlmdpamehhcblaaGreatDoorD.val_lt hall
      rw [List.length_append] at this
      exact Nat.lt_trans this (pow24 hab)
    have M := fun w he => Make_c w he (val (a ++ b) : Nat) (10 ^ b.length) (by show val (a ++ b) < _; exact hN) (pow24 (by omega)) (Nat.pos_iff_ne_zero.1 (Nat.pow_pos (by decide)))
    unfold RetRQ at M
    have ev : valV s = rtext (mkRat (val (a ++ b)) (10 ^ b.length)) := by
      unfold valV valT vfront vback; rw [if_pos h, hf, hbk]
    rw [ev, h]
    rw [h] at HN
    rw [YtlmdpamehhcblaaGreatDoorD.itoa_nat, YtlmdpamehhcblaaGreatDoorD.itoa_nat, ← ten_text] at M
    have R := fun w => Repeat_c w [48] b.length (by simp; omega) (by omega)
    simp only [rep48] at R
    have hz1 : (bs a).size + (bs b).size ≤ 24 := by rw [bs_size, bs_size]; exact hab
    have hz2 : (bs (List.replicate b.length 48)).size ≤ 24 := by rw [bs_size, List.length_replicate]; omega
    have happ : bs (49 :: List.replicate b.length 48) = { data := #[49] } ++ bs (List.replicate b.length 48) := by
      show _ = bs [49] ++ _
      rw [bs_append]; rfl
    rw [happ] at M
    rw [← bs_append] at T
    have hsb := bs_size b
    generalize hok : (YtlmdpamehhcblaaGreatDoorD.cutc 46 s).2.2 = ok at *
    have HC := Lib.hid C1
    have HR := Lib.hid R
    have HE := Lib.hid he
    by_cases ht : Lib.trimLeftS (a ++ b) [48] = []
    · have v0 := t0 ht
      rw [ht] at T
      rw [v0, show decDigits 0 = [48] by decide +kernel] at M
      have HT := Lib.hid T
      have HM := Lib.hid M
      rw [v0]
      have hE : (bs []).toList.isEmpty = true := by rw [bs_toList]; rfl
      clear T M C1 R he t0 t1 hN ev ht v0 hall hss hf hbk ha hb happ h a0 a1
      generalize bs (rtext (mkRat (((0 : Nat)) : Int) (10 ^ b.length))) = q at *
      generalize bs (List.replicate b.length 48) = z at *
      go_enter Tryz.func60, Tryz.ntmps60
      go_wp2_with fail
      refine HN.out.mono ?_
      rintro e w1 ⟨rfl, hg1⟩
      go_wp2_with fail
      refine (HC.out _ (HE.out.gr hg1)).mono ?_
      rintro e w2 ⟨rfl, hg2⟩
      have G2 := hg1.trans hg2
      clear hg1 hg2
      go_wp2_with fail
      refine (HT.out _).mono ?_
      rintro e w3 ⟨rfl, hg3⟩
      have G3 := G2.trans hg3
      clear G2 hg3
      go_wp2_with fail
      refine (HR.out _).mono ?_
      rintro e w4 ⟨rfl, hg4⟩
      have G4 := G3.trans hg4
      clear G3 hg4
      go_wp2_with fail
      refine (HM.out _ (HE.out.gr G4)).mono ?_
      rintro e w5 ⟨rfl, hg5⟩
      go_wp2_with fail
      go_ret2
      exact ⟨rfl, G4.trans hg5⟩
    · rw [← t1 ht] at M
      have hE : (bs (Lib.trimLeftS (a ++ b) [48])).toList.isEmpty = false := by rw [bs_toList]; simp [ht]
      generalize Lib.trimLeftS (a ++ b) [48] = t at *
      have HT := Lib.hid T
      have HM := Lib.hid M
      clear T M C1 R he t0 t1 hN ev ht hall hss hf hbk ha hb happ h a0 a1
      generalize bs (rtext (mkRat ((val (a ++ b) : Nat) : Int) (10 ^ b.length))) = q at *
      generalize bs (List.replicate b.length 48) = z at *
      go_enter Tryz.func60, Tryz.ntmps60
      go_wp2_with fail
      refine HN.out.mono ?_
      rintro e w1 ⟨rfl, hg1⟩
      go_wp2_with fail
      refine (HC.out _ (HE.out.gr hg1)).mono ?_
      rintro e w2 ⟨rfl, hg2⟩
      have G2 := hg1.trans hg2
      clear hg1 hg2
      go_wp2_with fail
      refine (HT.out _).mono ?_
      rintro e w3 ⟨rfl, hg3⟩
      have G3 := G2.trans hg3
      clear G2 hg3
      go_wp2_with fail
      refine (HR.out _).mono ?_
      rintro e w4 ⟨rfl, hg4⟩
      have G4 := G3.trans hg4
      clear G3 hg4
      go_wp2_with fail
      refine (HM.out _ (HE.out.gr G4)).mono ?_
      rintro e w5 ⟨rfl, hg5⟩
      go_wp2_with fail
      go_ret2
      exact ⟨rfl, G4.trans hg5⟩
  · have ev : valV s = [] := by unfold valV; rw [if_neg h]
    rw [ev]
    have kE : ¬ ((nerr s : Nat) : Int) = 0 := by omega
    clear ev h
    generalize nerr s = r at *
    go_enter Tryz.func60, Tryz.ntmps60
    go_wp2_with fail
    refine HN.out.mono ?_
    rintro e w1 ⟨rfl, hg1⟩
    go_wp2_with fail
    go_ret2
    exact ⟨rfl, hg1⟩
/-! ### finite -/
theorem two_text : bs (decDigits 2) = { data := #[50] } := by
  rw [YtlmdpamehhcblaaGreatDoorD.decDigits_small (by decide)]; rfl
theorem five_text : bs (decDigits 5) = { data := #[53] } := by
  rw [YtlmdpamehhcblaaGreatDoorD.decDigits_small (by decide)]; rfl
theorem isZ (d : Nat) : ((bs (decDigits d)).toList == [48]) = decide (d = 0) := by
  rw [bs_toList, Bool.eq_iff_iff, beq_iff_eq, decide_eq_true_iff]
  constructor
  · intro h
    have h2 : decDigits 0 = [48] := by decide +kernel
    rw [← h2] at h
    exact YtlmdpamehhcblaaGreatDoorD.decDigits_inj h
  · rintro rfl; decide +kernel
theorem isU (d : Nat) : ((bs (decDigits d)).toList == [49]) = decide (d = 1) := by
  rw [bs_toList, Bool.eq_iff_iff, beq_iff_eq, decide_eq_true_iff]
  exact YtlmdpamehhcblaaGreatDoorD.decDigits_eq_1
theorem RemN (w : World) (he : Env w) (m n : Nat) (hm : m < YtlmdpamehhcblaaGreatDoorD.Lim) (hn : n < YtlmdpamehhcblaaGreatDoorD.Lim) (h0 : 0 < n) : Calls Tryz.prog 138 #[.string (bs (decDigits m)), .string (bs (decDigits n))] w fun e w' => e = .returned (.tuple #[.string (bs (decDigits (m % n))), .int .i64 0]) ∧ Gr w w' := by
  have := Rem_c w he (m : Int) (n : Int) hm hn (by omega) (.inl (by omega))
  unfold RetI at this
  rwa [YtlmdpamehhcblaaGreatDoorD.itoa_nat, YtlmdpamehhcblaaGreatDoorD.itoa_nat, ← Int.natCast_emod, YtlmdpamehhcblaaGreatDoorD.itoa_nat] at this
theorem QuoN (w : World) (he : Env w) (m n : Nat) (hm : m < YtlmdpamehhcblaaGreatDoorD.Lim) (hn : n < YtlmdpamehhcblaaGreatDoorD.Lim) (h0 : 0 < n) : Calls Tryz.prog 137 #[.string (bs (decDigits m)), .string (bs (decDigits n))] w fun e w' => e = .returned (.tuple #[.string (bs (decDigits (m / n))), .int .i64 0]) ∧ Gr w w' := by
  have := Quo_c w he (m : Int) (n : Int) hm hn (by omega) (.inl (by omega))
  unfold RetI at this
  rwa [YtlmdpamehhcblaaGreatDoorD.itoa_nat, YtlmdpamehhcblaaGreatDoorD.itoa_nat, ← Int.natCast_ediv, YtlmdpamehhcblaaGreatDoorD.itoa_nat] at this
set_option maxHeartbeats 2000000 in
set_option maxRecDepth 20000 in
theorem finite_c (w : World) (he : Env w) (d : Nat) (hd : d < YtlmdpamehhcblaaGreatDoorD.Lim) (h0 : 0 < d) : Calls Tryz.prog 136 #[.string (bs (decDigits d))] w fun e w' => e = .returned (.tuple #[.bool (fin d), .int .i64 0]) ∧ Gr w w' := by
  have h2L : 2 < YtlmdpamehhcblaaGreatDoorD.Lim := by have := YtlmdpamehhcblaaGreatDoorD.lim_big; omega
  have h5L : 5 < YtlmdpamehhcblaaGreatDoorD.Lim := by have := YtlmdpamehhcblaaGreatDoorD.lim_big; omega
  have R2 := Lib.hid (fun w he m (hm : m < YtlmdpamehhcblaaGreatDoorD.Lim) => RemN w he m 2 hm h2L (by decide))
  have R5 := Lib.hid (fun w he m (hm : m < YtlmdpamehhcblaaGreatDoorD.Lim) => RemN w he m 5 hm h5L (by decide))
  have Q2 := Lib.hid (fun w he m (hm : m < YtlmdpamehhcblaaGreatDoorD.Lim) => QuoN w he m 2 hm h2L (by decide))
  have Q5 := Lib.hid (fun w he m (hm : m < YtlmdpamehhcblaaGreatDoorD.Lim) => QuoN w he m 5 hm h5L (by decide))
  rw [two_text] at R2 Q2
  rw [five_text] at R5 Q5
  have HE := Lib.hid he
  have HZ := Lib.hid isZ
  have HU := isU (stripN 5 (stripN 2 d))
  have S2 := Lib.hid (fun n (h : 0 < n) => YtlmdpamehhcblaaGreatDoorD.stripN_step (p := 2) (by decide) h)
  have S5 := Lib.hid (fun n (h : 0 < n) => YtlmdpamehhcblaaGreatDoorD.stripN_step (p := 5) (by decide) h)
  have N0 := new2 w (.string { data := #[50] }) (.string { data := #[53] }) 55
  have hfin : fin d = decide (stripN 5 (stripN 2 d) = 1) := rfl
  rw [hfin]
  have p2 := YtlmdpamehhcblaaGreatDoorD.stripN_pos (p := 2) (by decide) h0
  have l2 := YtlmdpamehhcblaaGreatDoorD.stripN_le (p := 2) (by decide) h0
  have HL := Lib.hid hd
  clear he hd h2L h5L hfin
  go_enter Tryz.func136, Tryz.ntmps136
  go_wp2_with fail
  go_loopg [0, 10] 2 (fun N v i wr => ∃ (j n : Nat), N + j = 2 ∧ i = .int .i64 j ∧ v = .string (bs (decDigits n)) ∧ Aside (Gr (w.alloc (.cells #[.string { data := #[50] }, .string { data := #[53] }] 55)) wr ∧ 0 < n ∧ n ≤ d ∧ ((j = 0 ∧ n = d) ∨ (j = 1 ∧ n = stripN 2 d) ∨ (j = 2 ∧ n = stripN 5 (stripN 2 d)))))
  case atStart => exact ⟨0, d, rfl, rfl, rfl, Gr.refl _, h0, Nat.le_refl _, .inl ⟨rfl, rfl⟩⟩
  case round =>
    obtain ⟨j, n, hj, rfl, rfl, A⟩ := hrel
    have c0 := cell_gr A.out.1 N0.1
    have c1 := cell_gr A.out.1 N0.2
    match j, hj with
    | 0, hj =>
      have hn : n = d := by rcases A.out.2.2.2 with ⟨_, h⟩ | ⟨h, _⟩ | ⟨h, _⟩ <;> omega
      subst hn
      have gk0 := gk
      have G0 := Lib.hid A.out.1
      clear A
      go_wp2_with fail
      go_loopg [0] n (fun N v wr2 => ∃ m : Nat, N = m ∧ v = .string (bs (decDigits m)) ∧ Aside (Gr (w.alloc (.cells #[.string { data := #[50] }, .string { data := #[53] }] 55)) wr2 ∧ 0 < m ∧ m ≤ n ∧ stripN 2 m = stripN 2 n))
      case atStart => exact ⟨n, rfl, rfl, G0.out, h0, Nat.le_refl _, rfl⟩
      case round =>
        obtain ⟨m, hm, rfl, A⟩ := hrel
        have hmL : m < YtlmdpamehhcblaaGreatDoorD.Lim := Nat.lt_of_le_of_lt A.out.2.2.1 HL.out
        have hz := HZ.out (m % 2)
        have hs := S2.out m A.out.2.1
        rw [A.out.2.2.2] at hs
        have HS := Lib.hid hs
        have E1 := Lib.hid (HE.out.gr (((Gr.refl w).alloc _).trans A.out.1))
        clear hs
        by_cases hm0 : m % 2 = 0
        · rw [hm0, decide_eq_true rfl] at hz
          have HR := Lib.hid (R2.out _ E1.out m hmL)
          rw [hm0] at HR
          have HM := Lib.hid hm0
          clear hm0
          go_wp2_with fail
          refine HR.out.mono ?_
          rintro e w2 ⟨rfl, hg2⟩
          have E2 := Lib.hid (E1.out.gr hg2)
          have A2 := Lib.hid (A.out.1.trans hg2)
          clear hg2
          go_wp2_with fail
          refine (Q2.out _ E2.out m hmL).mono ?_
          rintro e w3 ⟨rfl, hg3⟩
          have A3 := Lib.hid (A2.out.trans hg3)
          clear hg3
          go_wp2_with fail
          go_roundg (m / 2)
          case measure => have := A.out.2.1; omega
          case rel =>
            have h1 := A.out.2.1
            have hh := HS.out
            rw [if_pos HM.out] at hh
            exact ⟨m / 2, rfl, rfl, A3.out, by have := HM.out; omega, by have := A.out.2.2.1; omega, hh.symm⟩
        · rw [decide_eq_false hm0] at hz
          have HR := Lib.hid (R2.out _ E1.out m hmL)
          have HM := Lib.hid hm0
          clear hm0
          generalize m % 2 = x at HR hz
          go_wp2_with fail
          refine HR.out.mono ?_
          rintro e w2 ⟨rfl, hg2⟩
          have A2 := Lib.hid (A.out.1.trans hg2)
          clear hg2
          go_wp2_with fail
          go_roundg 1
          case measure => omega
          case rel =>
            have hh := HS.out
            rw [if_neg HM.out] at hh
            exact ⟨1, m, rfl, rfl, rfl, A2.out, A.out.2.1, A.out.2.2.1, .inr (.inl ⟨rfl, hh.symm⟩)⟩
    | 1, hj =>
      have hn : n = stripN 2 d := by
        rcases A.out.2.2.2 with ⟨h, _⟩ | ⟨_, h⟩ | ⟨h, _⟩
        · omega
        · exact h
        · omega
      subst hn
      have gk0 := gk
      have A0 := Lib.hid A.out
      clear A
      go_wp2_with fail
      go_loopg [0] (stripN 2 d) (fun N v wr2 => ∃ m : Nat, N = m ∧ v = .string (bs (decDigits m)) ∧ Aside (Gr (w.alloc (.cells #[.string { data := #[50] }, .string { data := #[53] }] 55)) wr2 ∧ 0 < m ∧ m ≤ d ∧ stripN 5 m = stripN 5 (stripN 2 d)))
      case atStart => exact ⟨stripN 2 d, rfl, rfl, A0.out.1, A0.out.2.1, A0.out.2.2.1, rfl⟩
      case round =>
        obtain ⟨m, hm, rfl, A⟩ := hrel
        have hmL : m < YtlmdpamehhcblaaGreatDoorD.Lim := Nat.lt_of_le_of_lt A.out.2.2.1 HL.out
        have hz := HZ.out (m % 5)
        have hs := S5.out m A.out.2.1
        rw [A.out.2.2.2] at hs
        have HS := Lib.hid hs
        have E1 := Lib.hid (HE.out.gr (((Gr.refl w).alloc _).trans A.out.1))
        clear hs
        by_cases hm0 : m % 5 = 0
        · rw [hm0, decide_eq_true rfl] at hz
          have HR := Lib.hid (R5.out _ E1.out m hmL)
          rw [hm0] at HR
          have HM := Lib.hid hm0
          clear hm0
          go_wp2_with fail
          refine HR.out.mono ?_
          rintro e w2 ⟨rfl, hg2⟩
          have E2 := Lib.hid (E1.out.gr hg2)
          have A2 := Lib.hid (A.out.1.trans hg2)
          clear hg2
          go_wp2_with fail
          refine (Q5.out _ E2.out m hmL).mono ?_
          rintro e w3 ⟨rfl, hg3⟩
          have A3 := Lib.hid (A2.out.trans hg3)
          clear hg3
          go_wp2_with fail
          go_roundg (m / 5)
          case measure => have := A.out.2.1; omega
          case rel =>
            have h1 := A.out.2.1
            have hh := HS.out
            rw [if_pos HM.out] at hh
            exact ⟨m / 5, rfl, rfl, A3.out, by have := HM.out; omega, by have := A.out.2.2.1; omega, hh.symm⟩
        · rw [decide_eq_false hm0] at hz
          have HR := Lib.hid (R5.out _ E1.out m hmL)
          have HM := Lib.hid hm0
          clear hm0
          generalize m % 5 = x at HR hz
          go_wp2_with fail
          refine HR.out.mono ?_
          rintro e w2 ⟨rfl, hg2⟩
          have A2 := Lib.hid (A.out.1.trans hg2)
          clear hg2
          go_wp2_with fail
          go_roundg 0
          case measure => omega
          case rel =>
            have hh := HS.out
            rw [if_neg HM.out] at hh
            exact ⟨2, m, rfl, rfl, rfl, A2.out, A.out.2.1, A.out.2.2.1, .inr (.inr ⟨rfl, hh.symm⟩)⟩
    | j + 2, hj =>
      have hj0 : j = 0 := by omega
      subst hj0
      have hn : n = stripN 5 (stripN 2 d) := by
        rcases A.out.2.2.2 with ⟨h, _⟩ | ⟨h, _⟩ | ⟨_, h⟩
        · omega
        · omega
        · exact h
      subst hn
      go_wp2_with fail
      go_ret2
      exact ⟨rfl, ((Gr.refl w).alloc _).trans A.out.1⟩
end Go.Proofs.YtlmdpamehhcblaaGreatDoor
