import Derived.Test.YtlmdpamehhcblaaGreatDoorLi
import Derived.Test.YtlmdpamehhcblaaGreatDoorPb
/- Contracts of the lexer: is, Signed. -/
namespace Go.Proofs.YtlmdpamehhcblaaGreatDoor
open Go.RowKit Go.Shelf
open Go.Lib (itoa decDigits)
open YtlmdpamehhcblaaGreatDoorD (isDig val rtext Q nerr valT Tok tok0 isT)

theorem eq_bs (l m : List UInt8) : ((bs l).toList == (bs m).toList) = (l == m) := by rw [bs_toList, bs_toList]
theorem isT_eq (t : Tok) (g : List UInt8) : isT t g = (t.kind == 2 && t.text == g) := rfl
set_option maxHeartbeats 1000000 in
theorem is_c (w : World) (t : Tok) (g : List UInt8) : Calls Tryz.prog 152 #[tval t, .string (bs g)] w fun e w' => e = .returned (.bool (isT t g)) ∧ Gr w w' := by
  rw [isT_eq]
  have E := eq_bs t.text g
  unfold tval
  obtain ⟨k, s, p⟩ := t
  dsimp only at *
  by_cases h : k = 2
  · subst h
    rw [← E]
    clear E
    go_enter Tryz.func152, Tryz.ntmps152
    go_wp2_with fail
    go_ret
    exact ⟨rfl, (Gr.refl w).alloc _⟩
  · have hk : (k == 2) = false := beq_eq_false_iff_ne.2 h
    rw [hk]
    clear E
    go_enter Tryz.func152, Tryz.ntmps152
    go_wp2_with fail
    go_ret
    exact ⟨rfl, (Gr.refl w).alloc _⟩
set_option maxHeartbeats 1000000 in
theorem is14_c (w : World) (t : Tok) (g : List UInt8) : Calls Tryz.prog 155 #[tval t, .string (bs g)] w fun e w' => e = .returned (.bool (isT t g)) ∧ Gr w w' := by
  rw [isT_eq]
  have E := eq_bs t.text g
  unfold tval
  obtain ⟨k, s, p⟩ := t
  dsimp only at *
  by_cases h : k = 2
  · subst h
    rw [← E]
    clear E
    go_enter Tryz.func155, Tryz.ntmps155
    go_wp2_with fail
    go_ret
    exact ⟨rfl, (Gr.refl w).alloc _⟩
  · have hk : (k == 2) = false := beq_eq_false_iff_ne.2 h
    rw [hk]
    clear E
    go_enter Tryz.func155, Tryz.ntmps155
    go_wp2_with fail
    go_ret
    exact ⟨rfl, (Gr.refl w).alloc _⟩
theorem val_lt24 {s : List UInt8} (h : nerr s = 0) : (valT s).num.natAbs < 10 ^ 24 ∧ (valT s).den ≤ 10 ^ 24 := by
  obtain ⟨a, b, ha, hb, a0, a1, hf, hbk, hs, hl⟩ := YtlmdpamehhcblaaGreatDoorD.nerr_parts h
  have hab : a.length + b.length ≤ 24 := by
    rcases hs with ⟨rfl, rfl⟩ | ⟨_, rfl⟩
    · simp at hl ⊢; exact hl
    · simp at hl; omega
  have hall : (a ++ b).all isDig = true := by rw [List.all_append, ha, hb]; rfl
  have hv := YtlmdpamehhcblaaGreatDoorD.val_lt hall
  rw [List.length_append] at hv
  have hv2 := Nat.lt_of_lt_of_le hv (Nat.pow_le_pow_right (by decide) hab)
  have e : valT s = mkRat (val (a ++ b)) (10 ^ b.length) := by unfold valT; rw [hf, hbk]
  obtain ⟨m1, m2⟩ := YtlmdpamehhcblaaGreatDoorD.mk_parts (val (a ++ b)) (10 ^ b.length) (Nat.pow_pos (by decide))
  rw [e, m1, m2]
  have h2 : 10 ^ b.length ≤ 10 ^ 24 := Nat.pow_le_pow_right (by decide) (by omega)
  exact ⟨Nat.lt_of_le_of_lt (Nat.div_le_self _ _) hv2, Nat.le_trans (Nat.div_le_self _ _) h2⟩
theorem valT_Q {s : List UInt8} (h : nerr s = 0) : Q (valT s) := by
  obtain ⟨h1, h2⟩ := val_lt24 h
  exact .of (k := 25) (by decide) (Nat.lt_trans h1 (by decide)) (Nat.lt_of_le_of_lt h2 (by decide))
/-- Where the number behind a sign stands. -/
def sgnA (l : List Tok) (j : Nat) : Nat := if isT (l.getD j tok0) [45] || isT (l.getD j tok0) [43] then j + 1 else j
/-- The number that begins at an index, and the index behind it, or the error. -/
def sgnT (l : List Tok) (at' : Int) : List UInt8 × Int × Nat :=
  if at' < 0 ∨ (l.length : Int) ≤ at' then ([], 0, 2)
  else if l.length ≤ sgnA l at'.toNat ∨ (l.getD (sgnA l at'.toNat) tok0).kind ≠ 1 then ([], 0, 4)
  else if nerr (l.getD (sgnA l at'.toNat) tok0).text ≠ 0 then ([], 0, nerr (l.getD (sgnA l at'.toNat) tok0).text)
  else (rtext (if isT (l.getD at'.toNat tok0) [45] then -(valT (l.getD (sgnA l at'.toNat) tok0).text) else valT (l.getD (sgnA l at'.toNat) tok0).text), (sgnA l at'.toNat : Nat) + 1, 0)
def RetSgn (r : List UInt8 × Int × Nat) (w : World) (e : Ending) (w' : World) : Prop := e = .returned (.tuple #[.string (bs r.1), .int .i64 r.2.1, .int .i64 (r.2.2 : Nat)]) ∧ Gr w w'
set_option maxHeartbeats 4000000 in
set_option maxRecDepth 20000 in
theorem Signed_c (w : World) (he : Env w) (b : Option Addr) (g off c : Nat) (l : List Tok) (at' : Int) (hb : l ≠ [] → b = some ⟨g, off, none⟩) (hl : TokAt w g off l) (hn : l.length ≤ 4611686018427387904) (hs : ∀ j, (l.getD j tok0).text.length ≤ 4611686018427387904) :
    Calls Tryz.prog 67 #[.slice b l.length c, .int .i64 at'] w (RetSgn (sgnT l at') w) := by
  unfold RetSgn
  by_cases hr : at' < 0 ∨ (l.length : Int) ≤ at'
  · have e : sgnT l at' = ([], 0, 2) := by unfold sgnT; rw [if_pos hr]
    rw [e]
    rcases (show at' < 0 ∨ (0 ≤ at' ∧ (l.length : Int) ≤ at') by omega) with h | ⟨h1, h2⟩
    · clear e hr
      go_enter Tryz.func67, Tryz.ntmps67
      go_wp2_with fail
      go_ret3
      exact ⟨rfl, Gr.refl w⟩
    · clear e hr
      go_enter Tryz.func67, Tryz.ntmps67
      go_wp2_with fail
      go_ret3
      exact ⟨rfl, Gr.refl w⟩
  · obtain ⟨j, rfl⟩ := Int.eq_ofNat_of_zero_le (show 0 ≤ at' by omega)
    have hj : j < l.length := by omega
    have e : sgnT l (j : Int) = (if l.length ≤ sgnA l j ∨ (l.getD (sgnA l j) tok0).kind ≠ 1 then ([], 0, 4)
      else if nerr (l.getD (sgnA l j) tok0).text ≠ 0 then ([], 0, nerr (l.getD (sgnA l j) tok0).text)
      else (rtext (if isT (l.getD j tok0) [45] then -(valT (l.getD (sgnA l j) tok0).text) else valT (l.getD (sgnA l j) tok0).text), ((sgnA l j : Nat) : Int) + 1, 0) : List UInt8 × Int × Nat) := by
      unfold sgnT; rw [if_neg hr]; rfl
    have eA : sgnA l j = (if isT (l.getD j tok0) [45] || isT (l.getD j tok0) [43] then j + 1 else j) := rfl
    obtain rfl := hb (by intro h; rw [h] at hj; simp at hj)
    have T0 := hl j hj
    have HL := Lib.hid hl
    have HE := Lib.hid he
    have H1 := Lib.hid (fun w => is_c w (l.getD j tok0) [45])
    have H2 := Lib.hid (fun w => is_c w (l.getD j tok0) [43])
    have HV := Lib.hid (fun w he k => Value_c w he (l.getD k tok0).text (hs k))
    have hn0 : 0 ≤ (j : Int) := by omega
    unfold RetVal at HV
    clear hb hl he hr hs
    unfold tval at H1 H2
    generalize isT (l.getD j tok0) [45] = m at *
    generalize isT (l.getD j tok0) [43] = p at *
    generalize ht : l.getD j tok0 = t at *
    have X : ∃ a, sgnA l j = a ∧ (a = j ∨ a = j + 1) := ⟨_, rfl, by rw [eA]; split <;> simp⟩
    obtain ⟨a, ha, haj⟩ := X
    rw [ha] at e eA
    rw [e]
    clear e ha haj
    have N1 : a < l.length → _ := fun h => HL.out a h
    by_cases c1 : l.length ≤ a
    · rw [if_pos (.inl c1)]
      cases m <;> cases p <;> simp only [Bool.or_true, Bool.or_false, if_true, if_false, Bool.false_eq_true] at eA <;> replace eA := eA.symm <;> subst eA
      all_goals first
        | exact absurd hj (by omega)
        | (go_enter Tryz.func67, Tryz.ntmps67
           go_wp2_with fail
           refine (H1.out _).mono ?_
           rintro e w1 ⟨rfl, hg1⟩
           have T1 := (HL.out.gr hg1) j hj
           rw [ht] at T1
           go_wp2_with fail
           first
             | (go_ret3
                exact ⟨rfl, hg1⟩)
             | (refine (H2.out _).mono ?_
                rintro e w2 ⟨rfl, hg2⟩
                go_wp2_with fail
                go_ret3
                exact ⟨rfl, hg1.trans hg2⟩))
    · have c1' : a < l.length := by omega
      obtain ⟨n1, n2, n3⟩ := N1 c1'
      have HVa := Lib.hid (fun w he => HV.out w he a)
      have hNA := Lib.hid (fun (w' : World) (h : Gr w w') => HL.out.gr h a c1')
      by_cases c2 : (l.getD a tok0).kind = 1
      · rw [c2] at n1
        have hNA := Lib.hid (fun (w' : World) (h : Gr w w') => (by have := hNA.out w' h; rw [c2] at this; exact ⟨this.1, this.2.1⟩ : w'.cell? ⟨g, off + a * 3, none⟩ = some (.int .i64 1) ∧ w'.cell? ⟨g, off + a * 3 + 1, none⟩ = some (.string (bs (l.getD a tok0).text))))
        rw [if_neg (by simp only [not_or, Nat.not_le, ne_eq, Decidable.not_not]; exact ⟨c1', c2⟩)]
        by_cases c3 : nerr (l.getD a tok0).text = 0
        · rw [if_neg (by rw [c3]; simp)]
          have hq := valT_Q c3
          have HVa := Lib.hid (fun w he => (by
            have := HVa.out w he
            unfold valV at this
            rw [c3, if_pos rfl] at this
            exact this : Calls Tryz.prog 60 #[.string (bs (l.getD a tok0).text)] w fun e w' => e = .returned (.tuple #[.string (bs (rtext (valT (l.getD a tok0).text))), .int .i64 0]) ∧ Gr w w'))
          have HN := Lib.hid (fun w he => RNeg_c w he _ hq)
          unfold RetRQ at HN
          clear hq c3 c2 c1 n1 n2 n3 N1 HV
          generalize valT (l.getD a tok0).text = q at *
          generalize (l.getD a tok0).text = s at *
          cases m <;> cases p <;> simp only [Bool.or_true, Bool.or_false, if_true, if_false, Bool.false_eq_true] at eA ⊢ <;> replace eA := eA.symm <;> subst eA
          all_goals (
            generalize bs (rtext q) = sq at *
            generalize bs (rtext (-q)) = sn at *
            go_enter Tryz.func67, Tryz.ntmps67
            go_wp2_with fail
            refine (H1.out _).mono ?_
            rintro e w1 ⟨rfl, hg1⟩
            have T1 := (HL.out.gr hg1) j hj
            rw [ht] at T1
            have A1 := hNA.out _ hg1
            obtain ⟨a1, a2⟩ := A1
            go_wp2_with fail
            first
              | (refine (H2.out _).mono ?_
                 rintro e w2 ⟨rfl, hg2⟩
                 have G2 := Lib.hid (hg1.trans hg2)
                 have A2 := hNA.out _ G2.out
                 obtain ⟨b1, b2⟩ := A2
                 clear hg1 hg2 a1 a2 T1
                 go_wp2_with fail)
              | have G2 := Lib.hid hg1
            refine (HVa.out _ (HE.out.gr G2.out)).mono ?_
            rintro e w3 ⟨rfl, hg3⟩
            have G3 := Lib.hid (G2.out.trans hg3)
            clear hg3
            go_wp2_with fail
            first
              | (refine (HN.out _ (HE.out.gr G3.out)).mono ?_
                 rintro e w4 ⟨rfl, hg4⟩
                 have G4 := Lib.hid (G3.out.trans hg4)
                 go_wp2_with fail)
              | have G4 := G3
            go_ret3
            exact ⟨by first | rfl | (rw [Int.natCast_add]; rfl), G4.out⟩)
        · rw [if_pos c3]
          have HVa := Lib.hid (fun w he => (by
            have := HVa.out w he
            unfold valV at this
            rw [if_neg c3] at this
            exact this : Calls Tryz.prog 60 #[.string (bs (l.getD a tok0).text)] w fun e w' => e = .returned (.tuple #[.string (bs []), .int .i64 (nerr (l.getD a tok0).text : Nat)]) ∧ Gr w w'))
          have kE : ¬ ((nerr (l.getD a tok0).text : Nat) : Int) = 0 := by omega
          clear c3 c2 c1 n1 n2 n3 N1 HV
          generalize nerr (l.getD a tok0).text = er at *
          generalize (l.getD a tok0).text = s at *
          cases m <;> cases p <;> simp only [Bool.or_true, Bool.or_false, if_true, if_false, Bool.false_eq_true] at eA ⊢ <;> replace eA := eA.symm <;> subst eA
          all_goals (
            go_enter Tryz.func67, Tryz.ntmps67
            go_wp2_with fail
            refine (H1.out _).mono ?_
            rintro e w1 ⟨rfl, hg1⟩
            have T1 := (HL.out.gr hg1) j hj
            rw [ht] at T1
            have A1 := hNA.out _ hg1
            obtain ⟨a1, a2⟩ := A1
            go_wp2_with fail
            first
              | (refine (H2.out _).mono ?_
                 rintro e w2 ⟨rfl, hg2⟩
                 have G2 := Lib.hid (hg1.trans hg2)
                 have A2 := hNA.out _ G2.out
                 obtain ⟨b1, b2⟩ := A2
                 clear hg1 hg2 a1 a2 T1
                 go_wp2_with fail)
              | have G2 := Lib.hid hg1
            refine (HVa.out _ (HE.out.gr G2.out)).mono ?_
            rintro e w3 ⟨rfl, hg3⟩
            have G3 := Lib.hid (G2.out.trans hg3)
            clear hg3
            go_wp2_with fail
            go_ret3
            exact ⟨rfl, G3.out⟩)
      · rw [if_pos (.inr c2)]
        have c2' : ¬ (l.getD a tok0).kind = 1 := c2
        clear c1 n1 n2 n3 N1 HV HVa c2
        generalize (l.getD a tok0).kind = kk at *
        have c2b : (kk != 1) = true := by simpa using c2'
        cases m <;> cases p <;> simp only [Bool.or_true, Bool.or_false, if_true, if_false, Bool.false_eq_true] at eA ⊢ <;> replace eA := eA.symm <;> subst eA
        all_goals (
          go_enter Tryz.func67, Tryz.ntmps67
          go_wp2_with fail
          refine (H1.out _).mono ?_
          rintro e w1 ⟨rfl, hg1⟩
          have T1 := (HL.out.gr hg1) j hj
          rw [ht] at T1
          have A1 := hNA.out _ hg1
          obtain ⟨a1, a2⟩ := A1
          go_wp2_with fail
          first
            | (refine (H2.out _).mono ?_
               rintro e w2 ⟨rfl, hg2⟩
               have G2 := Lib.hid (hg1.trans hg2)
               have A2 := hNA.out _ G2.out
               obtain ⟨b1, b2⟩ := A2
               clear hg1 hg2 a1 a2 T1
               go_wp2_with fail)
            | have G2 := Lib.hid hg1
          go_ret3
          exact ⟨rfl, G2.out⟩)
end Go.Proofs.YtlmdpamehhcblaaGreatDoor
