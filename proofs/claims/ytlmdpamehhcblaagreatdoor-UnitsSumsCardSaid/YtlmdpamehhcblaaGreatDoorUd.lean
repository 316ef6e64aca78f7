import Derived.Test.YtlmdpamehhcblaaGreatDoorUc
/- Contracts of package units: integral, Parse, Sum. -/
namespace Go.Proofs.YtlmdpamehhcblaaGreatDoor
open Go.RowKit
open Go.Lib (itoa decDigits)
open YtlmdpamehhcblaaGreatDoorD (rtext natural digs uword uval uidx isDig unum val ubeyond uexact Q usign usize uint uparse)

/-- An int, or the number of the error. -/
def parseV : Except Int Int → Value
  | .ok n => .tuple #[.int .i64 n, .int .i64 0]
  | .error e => .tuple #[.int .i64 0, .int .i64 e]
theorem rtext_len18 {x : Rat} (h : Q x) : (rtext x).length ≤ 2051 := rtext_len h
set_option maxHeartbeats 1000000 in
theorem integral_c (w : World) (he : Env w) (x : Rat) (hx : x.den = 1 → x.num.natAbs < 1000000000000000000) (hq : Q x) : Calls Tryz.prog 85 #[.string (bs (rtext x))] w fun e w' => e = .returned (parseV (uint x)) ∧ Gr w w' := by
  have hl := rtext_len hq
  by_cases hd : x.den = 1
  · have hr : uint x = .ok x.num := by unfold YtlmdpamehhcblaaGreatDoorD.uint; rw [if_pos hd]
    have ha : Lib.atoiAll (rtext x) = .ok x.num := by
      rw [YtlmdpamehhcblaaGreatDoorD.rtext_int hd]
      have := hx hd
      exact YtlmdpamehhcblaaGreatDoorD.atoi_itoa (by omega) (by omega)
    have HA := Lib.hid (Atoi_ok w (rtext x) (by omega) x.num ha)
    rw [hr]
    have er : parseV (.ok x.num) = .tuple #[.int .i64 x.num, .int .i64 0] := rfl
    rw [er]
    clear er ha hr hd hx
    generalize bs (rtext x) = s at *
    generalize x.num = n at *
    go_enter Tryz.func85, Tryz.ntmps85
    go_wp2_with fail
    refine HA.out.mono ?_
    rintro e w1 ⟨rfl, hg⟩
    go_wp2_with fail
    go_ret2
    exact ⟨rfl, hg⟩
  · have hr : uint x = .error 14 := by unfold YtlmdpamehhcblaaGreatDoorD.uint; rw [if_neg hd]
    rw [hr]
    have er : parseV (.error 14) = .tuple #[.int .i64 0, .int .i64 14] := rfl
    rw [er]
    have e : rtext x = itoa x.num ++ 47 :: decDigits x.den := by unfold rtext; rw [if_neg hd]
    cases ha : Lib.atoiAll (rtext x)
    · rename_i v; exact absurd ha (by rw [e]; exact YtlmdpamehhcblaaGreatDoorD.atoi_no _ _ v)
    · skip
      obtain ⟨tp, p, hv⟩ := he.es
      have HA := Lib.hid (Tryz.strconv_Atoi_syntax_var (bs (rtext x)) (by rw [bs_size]; omega) (by rw [bs_data]; exact ha) tp p w hv)
      clear er ha hr hv e hd hx
      generalize bs (rtext x) = s at *
      go_enter Tryz.func85, Tryz.ntmps85
      go_wp2_with fail
      refine HA.out.mono ?_
      rintro e w1 ⟨N, rfl, _, _, hg⟩
      go_wp2_with fail
      go_ret2
      exact ⟨rfl, hg⟩
    · skip
      obtain ⟨tp, p, hv⟩ := he.er
      have HA := Lib.hid (Tryz.strconv_Atoi_range_var (bs (rtext x)) (by rw [bs_size]; omega) (by rw [bs_data]; exact ha) tp p w hv)
      clear er ha hr hv e hd hx
      generalize bs (rtext x) = s at *
      generalize Lib.atoiSat s.data.toList = sat at *
      go_enter Tryz.func85, Tryz.ntmps85
      go_wp2_with fail
      refine HA.out.mono ?_
      rintro e w1 ⟨N, rfl, _, _, hg⟩
      go_wp2_with fail
      go_ret2
      exact ⟨rfl, hg⟩
theorem uexact_err {s : List UInt8} {e : Int} (h : uexact s = .error e) : e ≠ 0 ∧ 0 ≤ e ∧ e ≤ 100 := by
  unfold YtlmdpamehhcblaaGreatDoorD.uexact at h
  split at h
  · cases h; decide
  · split at h
    · rename_i hn
      cases h
      exact unum_err hn
    · split at h
      · cases h; decide
      · split at h
        · cases h; decide
        · cases h
theorem uexact_Q {s : List UInt8} {x : Rat} (h : uexact s = .ok x) : Q x := by
  obtain ⟨h1, h2, _⟩ := YtlmdpamehhcblaaGreatDoorD.uexact_parts h
  exact YtlmdpamehhcblaaGreatDoorD.Q.of (k := 18) (by decide) h1 (Nat.lt_of_lt_of_le h2 (Nat.pow_le_pow_right (by decide) (by decide)))
set_option maxHeartbeats 1000000 in
theorem Parse_c (w : World) (he : Env w) (s : List UInt8) (hs : s.length < 4294967281) : Calls Tryz.prog 23 #[.string (bs s)] w fun e w' => e = .returned (parseV (uparse s)) ∧ Gr w w' := by
  have HX := Exact_c w he s hs
  have HE := Lib.hid he
  generalize hr : uparse s = r
  unfold YtlmdpamehhcblaaGreatDoorD.uparse at hr
  cases hx : uexact s with
  | error c =>
    obtain ⟨c0, c1, c2⟩ := uexact_err hx
    rw [hx] at hr HX
    simp only [] at hr
    simp only [exactV] at HX
    subst hr
    have H := Lib.hid HX
    clear HX hx
    have er : parseV (.error c) = .tuple #[.int .i64 0, .int .i64 c] := rfl
    rw [er]
    clear er
    go_enter Tryz.func23, Tryz.ntmps23
    go_wp2_with fail
    refine H.out.mono ?_
    rintro e w1 ⟨rfl, hg⟩
    go_wp2_with fail
    go_ret2
    exact ⟨rfl, hg⟩
  | ok x =>
    have hq := uexact_Q hx
    have hp : x.num.natAbs < 1000000000000000000 := (YtlmdpamehhcblaaGreatDoorD.uexact_parts hx).1
    have HI := Lib.hid (fun w he => integral_c w he x (fun _ => hp) hq)
    rw [hx] at hr HX
    simp only [] at hr
    simp only [exactV] at HX
    subst hr
    have H := Lib.hid HX
    clear HX hx hp hq
    have hv : ∃ a b, parseV (uint x) = .tuple #[.int .i64 a, .int .i64 b] := by
      cases uint x with
      | ok n => exact ⟨n, 0, rfl⟩
      | error e => exact ⟨0, e, rfl⟩
    obtain ⟨va, vb, hv⟩ := hv
    rw [hv] at HI
    rw [hv]
    clear hv
    generalize bs (rtext x) = xt at *
    go_enter Tryz.func23, Tryz.ntmps23
    go_wp2_with fail
    refine H.out.mono ?_
    rintro e w1 ⟨rfl, hg⟩
    go_wp2_with fail
    refine (HI.out _ (HE.out.gr hg)).mono ?_
    rintro e w2 ⟨rfl, hg2⟩
    go_wp2_with fail
    go_ret2
    exact ⟨rfl, hg.trans hg2⟩
/-- A slice of texts in memory. -/
def TextsAt (w : World) (g off : Nat) (l : List (List UInt8)) : Prop := ∀ j, j < l.length → w.cell? ⟨g, off + j, none⟩ = some (.string (bs (l.getD j [])))
theorem TextsAt.gr {w w' : World} {g off : Nat} {l : List (List UInt8)} (h : TextsAt w g off l) (k : Gr w w') : TextsAt w' g off l := fun j hj => cell_gr k (h j hj)
theorem parseV_two (r : Except Int Int) : ∃ a b, parseV r = .tuple #[.int .i64 a, .int .i64 b] := by
  cases r with
  | ok n => exact ⟨n, 0, rfl⟩
  | error e => exact ⟨0, e, rfl⟩
/-- What the loop of units.Sum keeps. -/
def USum (l : List (List UInt8)) (j : Nat) (q : Rat) (w wr : World) : Prop := YtlmdpamehhcblaaGreatDoorD.usumR (l.take j) = .ok q ∧ Gr w wr
set_option maxHeartbeats 4000000 in
set_option maxRecDepth 20000 in
theorem Sum_c (w : World) (he : Env w) (p : Option Addr) (g off c : Nat) (l : List (List UInt8)) (hp : l ≠ [] → p = some ⟨g, off, none⟩) (hl : TextsAt w g off l) (hn : l.length ≤ 9223372036854775807)
    (hb : ∀ s ∈ l, s.length < 4294967281) (hq : l.length ≤ 256 → ∀ j q, YtlmdpamehhcblaaGreatDoorD.usumR (l.take j) = .ok q → Q q) :
    Calls Tryz.prog 32 #[.slice p l.length c] w fun e w' => e = .returned (parseV (YtlmdpamehhcblaaGreatDoorD.usum l)) ∧ Gr w w' := by
  have HL := Lib.hid hl
  have HB := Lib.hid hb
  have HE := Lib.hid he
  generalize hr : YtlmdpamehhcblaaGreatDoorD.usum l = r
  unfold YtlmdpamehhcblaaGreatDoorD.usum at hr
  by_cases h256 : 256 < l.length
  · rw [if_pos h256] at hr
    subst hr
    have er : parseV (.error 5) = .tuple #[.int .i64 0, .int .i64 5] := rfl
    rw [er]
    clear hl hb he hp hq er
    go_enter Tryz.func32, Tryz.ntmps32
    go_wp2_with fail
    go_ret2
    exact ⟨rfl, Gr.refl _⟩
  · rw [if_neg h256] at hr
    have HQ := Lib.hid (hq (by omega))
    have HP := Lib.hid hp
    have HR := Lib.hid hr
    have i0 : itoa 0 = [48] := by decide +kernel
    have r0 : rtext 0 = [48] := by rw [← i0, ← YtlmdpamehhcblaaGreatDoorD.rtext_ofInt]; rfl
    clear hl hb he hp hq hr
    go_enter Tryz.func32, Tryz.ntmps32
    go_wp2_with fail
    go_loopg [4, 14] l.length (fun k o i wr => ∃ (j : Nat) (q : Rat), k + j = l.length ∧ i = .int .i64 j ∧ o = .string (bs (rtext q)) ∧ Aside (USum l j q w wr))
    case atStart => exact ⟨0, 0, rfl, rfl, by rw [r0]; rfl, rfl, Gr.refl w⟩
    case round =>
      obtain ⟨j, q, hj, rfl, rfl, A⟩ := hrel
      have HJ := Lib.hid hj; clear hj
      have hqq := HQ.out j q A.out.1
      by_cases hlt : j < l.length
      · have hpp := HP.out (by intro e; rw [e] at hlt; simp at hlt)
        subst hpp
        have hcc := (HL.out.gr A.out.2) j hlt
        have hmem : l.getD j [] ∈ l := by rw [List.getD_eq_getElem?_getD, List.getElem?_eq_getElem hlt]; exact List.getElem_mem hlt
        have hstep := YtlmdpamehhcblaaGreatDoorD.usumR_take l j hlt
        rw [A.out.1] at hstep
        unfold YtlmdpamehhcblaaGreatDoorD.ustep at hstep
        have hX := Exact_c wr (HE.out.gr A.out.2) (l.getD j []) (HB.out _ hmem)
        clear hmem
        cases hx : uexact (l.getD j []) with
        | error e =>
          obtain ⟨z0, z1, z2⟩ := uexact_err hx
          rw [hx] at hX hstep
          simp only [exactV] at hX
          simp only [] at hstep
          have hstop := YtlmdpamehhcblaaGreatDoorD.usumR_stop l (j + 1) e hstep
          have hr := HR.out
          rw [hstop] at hr
          simp only [] at hr
          have hX := Lib.hid hX
          have hre := Lib.hid hr
          have HG := Lib.hid A.out.2
          clear hstep hstop hr hx A hqq
          generalize bs (l.getD j []) = s at *
          generalize bs (rtext q) = qt at *
          go_wp2_with fail
          refine hX.out.mono ?_
          rintro e1 w1 ⟨rfl, hg⟩
          go_wp2_with fail
          go_ret2
          exact ⟨by rw [← hre.out]; rfl, HG.out.trans hg⟩
        | ok x =>
          have hqx := uexact_Q hx
          rw [hx] at hX hstep
          simp only [exactV] at hX
          simp only [] at hstep
          have hX := Lib.hid hX
          have hA := Lib.hid (fun w he => RAdd_c w he q x hqq hqx)
          unfold RetRQ at hA
          have HG := Lib.hid A.out.2
          have HS := Lib.hid hstep
          clear hstep hx A hqq hqx
          generalize bs (l.getD j []) = s at *
          generalize bs (rtext q) = qt at *
          generalize bs (rtext x) = xt at *
          go_wp2_with fail
          refine hX.out.mono ?_
          rintro e1 w1 ⟨rfl, hg⟩
          go_wp2_with fail
          refine (hA.out _ (HE.out.gr (HG.out.trans hg))).mono ?_
          rintro e1 w2 ⟨rfl, hg2⟩
          have A2 : Aside (USum l (j + 1) (q + x) w w2) := ⟨HS.out, (HG.out.trans hg).trans hg2⟩
          clear hg hg2 HG HS hcc
          go_wp2_with fail
          go_roundg (gk - 1)
          case measure => have := HJ.out; omega
          case rel => exact ⟨j + 1, q + x, by have := HJ.out; omega, by go_num, rfl, A2.out⟩
      · have e1 : YtlmdpamehhcblaaGreatDoorD.usumR l = .ok q := by have := A.out.1; rwa [List.take_of_length_le (by omega)] at this
        have hr := HR.out
        rw [e1] at hr
        simp only [] at hr
        have hBY := Lib.hid (beyond13_c wr (HE.out.gr A.out.2) q hqq)
        have HG := Lib.hid A.out.2
        clear e1 A
        cases hby : ubeyond q with
        | true =>
          rw [hby] at hr hBY
          simp only [if_true] at hr
          have hre := Lib.hid hr
          clear hr hby hqq
          generalize bs (rtext q) = qt at *
          go_wp2_with fail
          refine hBY.out.mono ?_
          rintro e1 w1 ⟨rfl, hg⟩
          go_wp2_with fail
          go_ret2
          exact ⟨by rw [← hre.out]; rfl, HG.out.trans hg⟩
        | false =>
          rw [hby] at hr hBY
          simp only [Bool.false_eq_true, if_false] at hr
          have hre := Lib.hid hr
          have hI := Lib.hid (fun w he => integral_c w he q (fun hd => by have := YtlmdpamehhcblaaGreatDoorD.beyond_int hby hd; omega) hqq)
          obtain ⟨va, vb, hv⟩ := parseV_two (uint q)
          rw [hv] at hI
          have hv := Lib.hid hv
          clear hr hby hqq
          generalize bs (rtext q) = qt at *
          go_wp2_with fail
          refine hBY.out.mono ?_
          rintro e1 w1 ⟨rfl, hg⟩
          go_wp2_with fail
          refine (hI.out _ (HE.out.gr (HG.out.trans hg))).mono ?_
          rintro e1 w2 ⟨rfl, hg2⟩
          go_wp2_with fail
          go_ret2
          exact ⟨by rw [← hre.out, hv.out]; rfl, (HG.out.trans hg).trans hg2⟩
end Go.Proofs.YtlmdpamehhcblaaGreatDoor
