import Derived.Test.YtlmdpamehhcblaaGreatDoorLz
/- Contracts of the reference of the lexer: Normal, Same, FewText; the law LexerScans. -/
namespace Go.Proofs.YtlmdpamehhcblaaGreatDoor
open Go.RowKit Go.Shelf
open YtlmdpamehhcblaaGreatDoorD (nextT scanF scanT Tok formT apartT tok0 glueN ferrF joinT normT)

set_option maxHeartbeats 1000000 in
theorem Normal14_c (w : World) (s : List UInt8) (hs : s.length ≤ 4611686018427387904) : Calls Tryz.prog 55 #[.string (bs s)] w (RetNorm (normT s) w) := by
  have HS := Lib.hid (Scan14_c w s hs)
  have hlen := YtlmdpamehhcblaaGreatDoorD.scanT_len s
  have hT := YtlmdpamehhcblaaGreatDoorD.scanT_texts s
  have e : normT s = (if (scanT s).2.2 ≠ 0 then ([], (scanT s).2.1, (scanT s).2.2) else ((joinT (scanT s).1).1, 0, (joinT (scanT s).1).2)) := rfl
  have HJ := Lib.hid (fun w b g c hb hl => Join14_c w b g 0 c (scanT s).1 hb hl (by omega) (YtlmdpamehhcblaaGreatDoorD.getD_all (P := fun t => t.text.length ≤ 4611686018427387904) (fun t ht => Nat.le_trans (hT t ht) hs) (by decide)))
  unfold RetScan at HS
  unfold RetJoin at HJ
  unfold RetNorm
  rw [e]
  clear e hT
  generalize scanT s = r at *
  obtain ⟨L, at', er⟩ := r
  dsimp only at *
  by_cases he : er = 0
  · subst he
    rw [if_neg (by simp)]
    generalize joinT L = q at *
    go_enter Tryz.func55, Tryz.ntmps55
    go_wp2_with fail
    refine HS.out.mono ?_
    rintro e w1 ⟨v, rfl, hrow, hg1⟩
    obtain ⟨b, c, rfl, g, hb, hat⟩ := tok_form hrow
    have HJ2 := Lib.hid (HJ.out w1 b g c hb hat)
    go_wp2_with fail
    refine HJ2.out.mono ?_
    rintro e w2 ⟨rfl, hg2⟩
    go_wp2_with fail
    go_ret3
    exact ⟨rfl, hg1.trans hg2⟩
  · rw [if_pos he]
    have kE : ¬ ((er : Nat) : Int) = 0 := by omega
    clear HJ
    go_enter Tryz.func55, Tryz.ntmps55
    go_wp2_with fail
    refine HS.out.mono ?_
    rintro e w1 ⟨v, rfl, hrow, hg1⟩
    obtain ⟨b, c, rfl, g, hb, hat⟩ := tok_form hrow
    go_wp2_with fail
    go_ret3
    exact ⟨rfl, hg1⟩
/-- Two lists of tokens of the same tokens. -/
theorem Same_c (w : World) (b b' : Option Addr) (g g' off off' c c' : Nat) (l : List Tok) (hb : l ≠ [] → b = some ⟨g, off, none⟩) (hb' : l ≠ [] → b' = some ⟨g', off', none⟩) (hl : TokAt w g off l) (hl' : TokAt w g' off' l) (hn : l.length ≤ 4611686018427387904) :
    Calls Tryz.prog 53 #[.slice b l.length c, .slice b' l.length c'] w fun e w' => e = .returned (.bool true) ∧ Gr w w' := by
  have HL := Lib.hid hl
  have HL' := Lib.hid hl'
  have HB := Lib.hid hb
  have HB' := Lib.hid hb'
  clear hl hl' hb hb'
  go_enter Tryz.func53, Tryz.ntmps53
  go_wp2_with fail
  go_loopg [5] l.length (fun N p wr => ∃ j : Nat, p = .int .i64 j ∧ N + j = l.length ∧ Aside (Gr w wr))
  case atStart => exact ⟨0, rfl, rfl, Gr.refl w⟩
  case round =>
    obtain ⟨j, rfl, hj, A⟩ := hrel
    by_cases hlt : j < l.length
    · have hne : l ≠ [] := by intro h; rw [h] at hlt; simp at hlt
      obtain rfl := HB.out hne
      obtain rfl := HB'.out hne
      obtain ⟨t1, t2, t3⟩ := (HL.out.gr A.out) j hlt
      obtain ⟨u1, u2, u3⟩ := (HL'.out.gr A.out) j hlt
      generalize l.getD j tok0 = t at *
      clear hne
      go_wp2_with fail
      go_quiet (fail)
      go_wp2_with fail
      go_roundg (gk - 1)
      case measure => omega
      case rel => exact ⟨j + 1, by go_num, by omega, A.out.drewN _⟩
    · go_wp2_with fail
      go_ret
      exact ⟨rfl, A.out⟩
set_option maxHeartbeats 1000000 in
theorem FewText_c (w : World) (S : ByteArray) : Calls Tryz.prog 50 #[.string S] w fun e w' => e = .returned (.bool (decide (S.size ≤ 500 ∨ (4096 < S.size ∧ S.size ≤ 8192)))) ∧ w' = w := by
  by_cases h1 : S.size ≤ 500
  · have e : decide (S.size ≤ 500 ∨ (4096 < S.size ∧ S.size ≤ 8192)) = true := decide_eq_true (.inl h1)
    rw [e]
    clear e
    go_enter Tryz.func50, Tryz.ntmps50
    go_wp2_with fail
    go_ret
    exact ⟨rfl, rfl⟩
  · by_cases h2 : 4096 < S.size
    · by_cases h3 : S.size ≤ 8192
      · have e : decide (S.size ≤ 500 ∨ (4096 < S.size ∧ S.size ≤ 8192)) = true := decide_eq_true (.inr ⟨h2, h3⟩)
        rw [e]
        clear e
        go_enter Tryz.func50, Tryz.ntmps50
        go_wp2_with fail
        go_ret
        exact ⟨by congr 2; simp; omega, rfl⟩
      · have e : decide (S.size ≤ 500 ∨ (4096 < S.size ∧ S.size ≤ 8192)) = false := decide_eq_false (by omega)
        rw [e]
        clear e
        go_enter Tryz.func50, Tryz.ntmps50
        go_wp2_with fail
        go_ret
        exact ⟨by congr 2; simp; omega, rfl⟩
    · have e : decide (S.size ≤ 500 ∨ (4096 < S.size ∧ S.size ≤ 8192)) = false := decide_eq_false (by omega)
      rw [e]
      clear e
      go_enter Tryz.func50, Tryz.ntmps50
      go_wp2_with fail
      go_ret
      exact ⟨by congr 2; simp; omega, rfl⟩
set_option maxHeartbeats 4000000 in
theorem LScans_c (w : World) (he : Env w) (s : List UInt8) : Calls Tryz.prog 12 #[.string (bs s)] w fun e w' => e = .returned (.bool true) ∧ Gr w w' := by
  have HA := Lib.hid (fun w he => awake14_c w he)
  have HE := Lib.hid he
  have hsz := bs_size s
  have HF := Lib.hid (fun w => FewText_c w (bs s))
  clear he
  by_cases h : (bs s).size ≤ 500 ∨ (4096 < (bs s).size ∧ (bs s).size ≤ 8192)
  · rw [decide_eq_true h] at HF
    have hL : s.length ≤ 4611686018427387904 := by omega
    have S1 := Lib.hid (fun w => Scan_c w s hL)
    have S2 := Lib.hid (fun w => Scan14_c w s hL)
    have N1 := Lib.hid (fun w => Normal_c w s hL)
    have N2 := Lib.hid (fun w => Normal14_c w s hL)
    have hlen := YtlmdpamehhcblaaGreatDoorD.scanT_len s
    unfold RetScan at S1 S2
    unfold RetNorm at N1 N2
    generalize scanT s = r at *
    generalize normT s = q at *
    obtain ⟨L, a, e⟩ := r
    obtain ⟨J, ja, je⟩ := q
    dsimp only at *
    generalize bs J = JJ at *
    generalize bs s = S at *
    clear hsz h hL
    go_enter Tryz.func12, Tryz.ntmps12
    go_wp2_with fail
    refine (HF.out _).mono ?_
    rintro e w1 ⟨rfl, hw1⟩
    replace hw1 := hw1.symm
    subst hw1
    go_wp2_with fail
    refine (S1.out _).mono ?_
    rintro e w1 ⟨v, rfl, hT1, hg1⟩
    obtain ⟨b1, c1, rfl, hc1, g1, hb1, hat1⟩ := tok_form2 hT1
    have A1 := Lib.hid hat1
    have G1 := Lib.hid hg1
    clear hT1 hg1 hat1
    go_wp2_with fail
    refine (S2.out _).mono ?_
    rintro e w2 ⟨v, rfl, hT2, hg2⟩
    obtain ⟨b2, c2, rfl, hc2, g2, hb2, hat2⟩ := tok_form2 hT2
    have SM := Lib.hid (Same_c w2 b1 b2 g1 g2 0 0 c1 c2 L hb1 hb2 (A1.out.gr hg2) hat2 (by omega))
    have G2 := Lib.hid (G1.out.trans hg2)
    clear hT2 hg2 hat2 hb1 hb2 hc1 hc2
    generalize L.length = n at *
    go_wp2_with fail
    refine SM.out.mono ?_
    rintro e w3 ⟨rfl, hg3⟩
    have G3 := Lib.hid (G2.out.trans hg3)
    clear hg3
    go_wp2_with fail
    refine (N1.out _).mono ?_
    rintro e w4 ⟨rfl, hg4⟩
    have G4 := Lib.hid (G3.out.trans hg4)
    clear hg4
    go_wp2_with fail
    refine (N2.out _).mono ?_
    rintro e w5 ⟨rfl, hg5⟩
    have G5 := Lib.hid (G4.out.trans hg5)
    clear hg5
    go_wp2_with fail
    refine (HA.out _ (HE.out.gr G5.out)).mono ?_
    rintro e w6 ⟨rfl, hg6⟩
    go_wp2_with fail
    go_ret
    exact ⟨by simp, G5.out.trans hg6⟩
  · rw [decide_eq_false h] at HF
    generalize bs s = S at *
    clear hsz h
    go_enter Tryz.func12, Tryz.ntmps12
    go_wp2_with fail
    refine (HF.out _).mono ?_
    rintro e w1 ⟨rfl, hw1⟩
    replace hw1 := hw1.symm
    subst hw1
    go_wp2_with fail
    refine (HA.out _ HE.out).mono ?_
    rintro e w6 ⟨rfl, hg6⟩
    go_wp2_with fail
    go_ret
    exact ⟨rfl, hg6⟩
end Go.Proofs.YtlmdpamehhcblaaGreatDoor
