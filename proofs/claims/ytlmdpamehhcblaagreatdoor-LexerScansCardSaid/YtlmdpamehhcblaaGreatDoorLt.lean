import Derived.Test.YtlmdpamehhcblaaGreatDoorLs
/- awake of the statements on the lexer: the chapter's examples. -/
namespace Go.Proofs.YtlmdpamehhcblaaGreatDoor
open Go.RowKit Go.Shelf
open Go.Lib (itoa decDigits)
open YtlmdpamehhcblaaGreatDoorD (rtext scanT normT decT valT nerr Tok tok0 partT Q)

def hole : List UInt8 := [104, 111, 108, 101, 32, 65, 32, 50, 53, 32, 72, 55, 47, 103, 54]
def abcd : List UInt8 := [97, 44, 32, 40, 98, 44, 32, 99, 41, 44, 32, 100]
theorem aw_scan : (scanT hole).1.length = 7 ∧ ((scanT hole).1.getD 6 tok0).pos = 15 ∧ (scanT hole).2 = (0, 0) := by
  refine ⟨?_, ?_, ?_⟩ <;> kernel_rfl
theorem aw_norm : normT hole = ([104, 111, 108, 101, 32, 65, 32, 50, 53, 72, 55, 47, 103, 54], 0, 0) := by kernel_rfl
theorem aw_e1 : (scanT [97, 32, 48, 49]) = ([], 2, 3) := by kernel_rfl
theorem aw_e2 : (scanT [97, 32, 63]) = ([], 2, 4) := by kernel_rfl
theorem aw_e3 : (scanT [51, 46]) = ([], 1, 4) := by kernel_rfl
theorem aw_val : nerr [49, 50, 46, 53, 48] = 0 ∧ valV [49, 50, 46, 53, 48] = [50, 53, 47, 50] := by constructor <;> kernel_rfl
def q1 : Rat := mkRat 25 2
def q2 : Rat := mkRat 1 3
def q3 : Rat := mkRat (-7) 4
theorem aw_q : rtext q1 = [50, 53, 47, 50] ∧ rtext q2 = [49, 47, 51] ∧ rtext q3 = [45, 55, 47, 52] := by refine ⟨?_, ?_, ?_⟩ <;> kernel_rfl
theorem aw_d : decT q1 = ([49, 50, 46, 53], 0) ∧ decT q2 = ([], 14) ∧ decT q3 = ([45, 49, 46, 55, 53], 0) := by refine ⟨?_, ?_, ?_⟩ <;> kernel_rfl
theorem aw_Q : Q q1 ∧ Q q2 ∧ Q q3 := by
  refine ⟨?_, ?_, ?_⟩ <;> exact .of (k := 3) (by decide) (by decide +kernel) (by decide +kernel)
theorem aw_abcd : (scanT abcd).1.length = 10 ∧ (scanT abcd).2 = (0, 0) := by constructor <;> kernel_rfl
theorem aw_parts : (partT (scanT abcd).1 [44]).2 = 0 ∧ (partT (scanT abcd).1 [44]).1.length = 3 ∧ ((partT (scanT abcd).1 [44]).1.getD 0 []).length = 1 ∧ ((partT (scanT abcd).1 [44]).1.getD 1 []).length = 5 ∧ ((partT (scanT abcd).1 [44]).1.getD 2 []).length = 1 := by
  refine ⟨?_, ?_, ?_, ?_, ?_⟩ <;> kernel_rfl
/-- What a call of Scan that is right gives. -/
theorem Scan_v (w : World) (s : List UInt8) (hs : s.length ≤ 4611686018427387904) (n : Nat) (hn : (scanT s).1.length = n) (h2 : (scanT s).2 = (0, 0)) :
    Calls Tryz.prog 51 #[.string (bs s)] w fun e w' => ∃ b c g, e = .returned (.tuple #[.slice b n c, .int .i64 0, .int .i64 0]) ∧ Aside ((n ≠ 0 → b = some ⟨g, 0, none⟩) ∧ n ≤ c ∧ TokAt w' g 0 (scanT s).1 ∧ Gr w w') := by
  refine (Scan_c w s hs).mono ?_
  rintro e w' ⟨v, rfl, hT, hg⟩
  obtain ⟨b, c, rfl, hc, g, hb, hat⟩ := tok_form2 hT
  rw [h2]
  subst hn
  exact ⟨b, c, g, rfl, fun h => hb (fun e => h (by rw [e]; rfl)), hc, hat, hg⟩
theorem Scan_e (w : World) (s : List UInt8) (hs : s.length ≤ 4611686018427387904) (p : Nat) (n : Nat) (h : scanT s = ([], p, n)) :
    Calls Tryz.prog 51 #[.string (bs s)] w fun e w' => ∃ v, e = .returned (.tuple #[v, .int .i64 p, .int .i64 n]) ∧ Gr w w' := by
  refine (Scan_c w s hs).mono ?_
  rintro e w' ⟨v, rfl, hT, hg⟩
  rw [h]
  exact ⟨v, rfl, hg⟩
set_option maxHeartbeats 4000000 in
set_option maxRecDepth 20000 in
theorem awake14_c (w : World) (he : Env w) : Calls Tryz.prog 45 #[] w fun e w' => e = .returned (.bool true) ∧ Gr w w' := by
  have HE := Lib.hid he
  have S1 := Lib.hid (fun w => (Scan_v w hole (by decide) 7 aw_scan.1 aw_scan.2.2 : Calls Tryz.prog 51 #[.string ⟨#[104, 111, 108, 101, 32, 65, 32, 50, 53, 32, 72, 55, 47, 103, 54]⟩] w _))
  have N1 := Lib.hid (fun w => (by have := Normal_c w hole (by decide); unfold RetNorm at this; rw [aw_norm] at this; exact this : Calls Tryz.prog 54 #[.string ⟨#[104, 111, 108, 101, 32, 65, 32, 50, 53, 32, 72, 55, 47, 103, 54]⟩] w fun e w' => e = .returned (.tuple #[.string ⟨#[104, 111, 108, 101, 32, 65, 32, 50, 53, 72, 55, 47, 103, 54]⟩, .int .i64 0, .int .i64 0]) ∧ Gr w w'))
  have E1 := Lib.hid (fun w => (Scan_e w [97, 32, 48, 49] (by decide) 2 3 aw_e1 : Calls Tryz.prog 51 #[.string ⟨#[97, 32, 48, 49]⟩] w _))
  have E2 := Lib.hid (fun w => (Scan_e w [97, 32, 63] (by decide) 2 4 aw_e2 : Calls Tryz.prog 51 #[.string ⟨#[97, 32, 63]⟩] w _))
  have E3 := Lib.hid (fun w => (Scan_e w [51, 46] (by decide) 1 4 aw_e3 : Calls Tryz.prog 51 #[.string ⟨#[51, 46]⟩] w _))
  have V1 := Lib.hid (fun w he => (by have := Value_c w he [49, 50, 46, 53, 48] (by decide); unfold RetVal at this; rw [aw_val.1, aw_val.2] at this; exact this : Calls Tryz.prog 60 #[.string ⟨#[49, 50, 46, 53, 48]⟩] w fun e w' => e = .returned (.tuple #[.string ⟨#[50, 53, 47, 50]⟩, .int .i64 0]) ∧ Gr w w'))
  have D1 := Lib.hid (fun w he => (by have := Decimal_c w he q1 aw_Q.1; unfold RetDec at this; rw [aw_q.1, aw_d.1] at this; exact this : Calls Tryz.prog 62 #[.string ⟨#[50, 53, 47, 50]⟩] w fun e w' => e = .returned (.tuple #[.string ⟨#[49, 50, 46, 53]⟩, .int .i64 0]) ∧ Gr w w'))
  have D2 := Lib.hid (fun w he => (by have := Decimal_c w he q2 aw_Q.2.1; unfold RetDec at this; rw [aw_q.2.1, aw_d.2.1] at this; exact this : Calls Tryz.prog 62 #[.string ⟨#[49, 47, 51]⟩] w fun e w' => e = .returned (.tuple #[.string ⟨#[]⟩, .int .i64 14]) ∧ Gr w w'))
  have D3 := Lib.hid (fun w he => (by have := Decimal_c w he q3 aw_Q.2.2; unfold RetDec at this; rw [aw_q.2.2, aw_d.2.2] at this; exact this : Calls Tryz.prog 62 #[.string ⟨#[45, 55, 47, 52]⟩] w fun e w' => e = .returned (.tuple #[.string ⟨#[45, 49, 46, 55, 53]⟩, .int .i64 0]) ∧ Gr w w'))
  have S2 := Lib.hid (fun w => (Scan_v w abcd (by decide) 10 aw_abcd.1 aw_abcd.2 : Calls Tryz.prog 51 #[.string ⟨#[97, 44, 32, 40, 98, 44, 32, 99, 41, 44, 32, 100]⟩] w _))
  have P1 := Lib.hid (fun w he b g c hb hl (hc : 10 ≤ c) => (by
    have := Parts14_c w he b g 0 c (scanT abcd).1 [44] hb hl (by rw [aw_abcd.1]; exact hc) (by rw [aw_abcd.1]; decide) (by decide)
    rw [aw_abcd.1] at this
    exact this : Calls Tryz.prog 66 #[.slice b 10 c, .string ⟨#[44]⟩] w (RetParts (partT (scanT abcd).1 [44]) w)))
  have HP := Lib.hid aw_parts
  have HS := Lib.hid aw_scan
  have HAB := Lib.hid aw_abcd
  clear he
  unfold RetParts at P1
  generalize partT (scanT abcd).1 [44] = pr at *
  generalize (scanT hole).1 = L1 at *
  generalize (scanT abcd).1 = L2 at *
  go_enter Tryz.func45, Tryz.ntmps45
  go_wp2_with fail
  refine (S1.out _).mono ?_
  rintro e w1 ⟨b, c, g, rfl, A⟩
  obtain rfl := A.out.1 (by decide)
  have hx := A.out.2.2.1 6 (by have := HS.out.1; omega)
  have hx2 := hx.2.2
  rw [HS.out.2.1] at hx2
  have G1 := Lib.hid A.out.2.2.2
  have HX := Lib.hid hx2
  clear hx hx2 A
  go_wp2_with fail
  refine (N1.out _).mono ?_
  rintro e w2 ⟨rfl, hg2⟩
  have hx3 := cell_gr hg2 HX.out
  have G2 := Lib.hid (G1.out.trans hg2)
  clear hg2
  go_wp2_with fail
  refine (E1.out _).mono ?_
  rintro e w3 ⟨v1, rfl, hg3⟩
  have G3 := Lib.hid (G2.out.trans hg3)
  clear hg3 hx3
  go_wp2_with fail
  refine (E2.out _).mono ?_
  rintro e w4 ⟨v2, rfl, hg4⟩
  have G4 := Lib.hid (G3.out.trans hg4)
  clear hg4
  go_wp2_with fail
  refine (E3.out _).mono ?_
  rintro e w5 ⟨v3, rfl, hg5⟩
  have G5 := Lib.hid (G4.out.trans hg5)
  clear hg5
  go_wp2_with fail
  refine (V1.out _ (HE.out.gr G5.out)).mono ?_
  rintro e w6 ⟨rfl, hg6⟩
  have G6 := Lib.hid (G5.out.trans hg6)
  clear hg6
  go_wp2_with fail
  refine (D1.out _ (HE.out.gr G6.out)).mono ?_
  rintro e w7 ⟨rfl, hg7⟩
  have G7 := Lib.hid (G6.out.trans hg7)
  clear hg7
  go_wp2_with fail
  refine (D2.out _ (HE.out.gr G7.out)).mono ?_
  rintro e w8 ⟨rfl, hg8⟩
  have G8 := Lib.hid (G7.out.trans hg8)
  clear hg8
  go_wp2_with fail
  refine (D3.out _ (HE.out.gr G8.out)).mono ?_
  rintro e w9 ⟨rfl, hg9⟩
  have G9 := Lib.hid (G8.out.trans hg9)
  clear hg9
  go_wp2_with fail
  refine (S2.out _).mono ?_
  rintro e w10 ⟨b2, c2, g2, rfl, A⟩
  have GX := Lib.hid (G9.out.trans A.out.2.2.2)
  go_wp2_with fail
  refine (P1.out _ (HE.out.gr GX.out) b2 g2 c2 (fun _ => A.out.1 (by decide)) A.out.2.2.1 A.out.2.1).mono ?_
  rintro e w11 ⟨v, n, cc, bb, rfl, rfl, hn, hpw, hg11⟩
  have GY := Lib.hid (GX.out.trans hg11)
  obtain ⟨h0, h1, h2, h3, h4⟩ := HP.out
  obtain ⟨Gp, b0, c0, hb0, k0, _⟩ := hpw.cell hn 0 (by omega)
  obtain ⟨Gp1, b1, c1, hb1, k1, _⟩ := hpw.cell hn 1 (by omega)
  obtain ⟨Gp2, b2', c2', hb2, k2, _⟩ := hpw.cell hn 2 (by omega)
  subst hb0
  simp only [Option.some.injEq, Addr.mk.injEq, and_true] at hb1 hb2
  subst hb1 hb2
  rw [h1] at hn
  subst hn
  rw [h2] at k0
  rw [h3] at k1
  rw [h4] at k2
  rw [h0]
  clear hpw hg11 A h0 h1 h2 h3 h4
  go_wp2_with fail
  go_ret
  exact ⟨rfl, GY.out⟩
end Go.Proofs.YtlmdpamehhcblaaGreatDoor
