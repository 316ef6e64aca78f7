import Derived.Test.YtlmdpamehhcblaaGreatDoorKe
import Derived.Test.YtlmdpamehhcblaaGreatDoorKc
import Derived.Test.YtlmdpamehhcblaaGreatDoorUs
/- Contracts of the reference of units: Sum, Few. UnitsSums. -/
namespace Go.Proofs.YtlmdpamehhcblaaGreatDoor
open Go.RowKit
open Go.Lib (itoa decDigits)
open YtlmdpamehhcblaaGreatDoorD (isDig val rtext uexact uparse uint ubeyond Q usum usumR ustep)

theorem P5.of {q : Rat} (h : Q q) : P5 q := by
  refine ⟨?_, ?_⟩
  · rw [YtlmdpamehhcblaaGreatDoorD.decDigits_len]
    exact (YtlmdpamehhcblaaGreatDoorD.nDigits_le_iff _ _ (by decide)).2 (by have := h.n; unfold YtlmdpamehhcblaaGreatDoorD.Half at this; rw [YtlmdpamehhcblaaGreatDoorD.halfE_eq] at this; exact this)
  · rw [YtlmdpamehhcblaaGreatDoorD.decDigits_len]
    exact (YtlmdpamehhcblaaGreatDoorD.nDigits_le_iff _ _ (by decide)).2 (by have := h.d; unfold YtlmdpamehhcblaaGreatDoorD.Half at this; rw [YtlmdpamehhcblaaGreatDoorD.halfE_eq] at this; exact this)
set_option maxHeartbeats 1000000 in
set_option maxRecDepth 20000 in
theorem Sum13_c (w : World) (p : Option Addr) (g off c : Nat) (l : List (List UInt8)) (hp : l ≠ [] → p = some ⟨g, off, none⟩) (hl : TextsAt w g off l) (hn : l.length ≤ 1000)
    (hb : ∀ s ∈ l, s.length ≤ 3000) (hq : l.length ≤ 256 → ∀ j q, usumR (l.take j) = .ok q → Q q) :
    Calls Tryz.prog 33 #[.slice p l.length c] w fun e w' => e = .returned (parseV (usum l)) ∧ Gr w w' := by
  have HL := Lib.hid hl
  have HB := Lib.hid hb
  generalize hr : usum l = r
  unfold YtlmdpamehhcblaaGreatDoorD.usum at hr
  by_cases h256 : 256 < l.length
  · rw [if_pos h256] at hr
    subst hr
    have er : parseV (.error 5) = .tuple #[.int .i64 0, .int .i64 5] := rfl
    rw [er]
    clear hl hb hp hq er
    go_enter Tryz.func33, Tryz.ntmps33
    go_wp2_with fail
    go_ret2
    exact ⟨rfl, Gr.refl _⟩
  · rw [if_neg h256] at hr
    have HQ := Lib.hid (hq (by omega))
    have HP := Lib.hid hp
    have HR := Lib.hid hr
    have i0 : itoa 0 = [48] := by decide +kernel
    have r0 : rtext 0 = [48] := by rw [← i0, ← YtlmdpamehhcblaaGreatDoorD.rtext_ofInt]; rfl
    clear hl hb hp hq hr
    go_enter Tryz.func33, Tryz.ntmps33
    go_wp2_with fail
    go_loopg [4, 5] l.length (fun k o i wr => ∃ (j : Nat) (q : Rat), k + j = l.length ∧ i = .int .i64 j ∧ o = .string (bs (rtext q)) ∧ Aside (USum l j q w wr))
    case atStart => exact ⟨0, 0, rfl, rfl, by rw [r0]; rfl, rfl, Gr.refl w⟩
    case round =>
      obtain ⟨j, q, hj, rfl, rfl, A⟩ := hrel
      have HJ := Lib.hid hj; clear hj
      have hqq := HQ.out j q A.out.1
      by_cases hlt : j < l.length
      · have hpp := HP.out (by intro e; rw [e] at hlt; simp at hlt)
        subst hpp
        have hcc := (HL.out.gr A.out.2) j hlt
        have hmem : l.getD j [] ∈ l := by rw [List.getD_eq_getElem?_getD, List.getElem?_eq_getElem hlt]; exact List.getElem_mem hlt
        have hstep := YtlmdpamehhcblaaGreatDoorD.usumR_take l j hlt
        rw [A.out.1] at hstep
        unfold YtlmdpamehhcblaaGreatDoorD.ustep at hstep
        have hX := fun w => Exact13_c w (l.getD j []) (HB.out _ hmem)
        clear hmem
        cases hx : uexact (l.getD j []) with
        | error e =>
          obtain ⟨z0, z1, z2⟩ := uexact_err hx
          rw [hx] at hX hstep
          simp only [exactV] at hX
          simp only [] at hstep
          have hstop := YtlmdpamehhcblaaGreatDoorD.usumR_stop l (j + 1) e hstep
          have hr := HR.out
          rw [hstop] at hr
          simp only [] at hr
          have hX := Lib.hid hX
          have hre := Lib.hid hr
          have HG := Lib.hid A.out.2
          clear hstep hstop hr hx A hqq
          generalize bs (l.getD j []) = s at *
          generalize bs (rtext q) = qt at *
          go_wp2_with fail
          refine (hX.out _).mono ?_
          rintro e1 w1 ⟨rfl, hg⟩
          go_wp2_with fail
          go_ret2
          exact ⟨by rw [← hre.out]; rfl, HG.out.trans hg⟩
        | ok x =>
          have hqx := uexact_Q hx
          rw [hx] at hX hstep
          simp only [exactV] at hX
          simp only [] at hstep
          have hX := Lib.hid hX
          have hA := Lib.hid (fun w => plus2_c w q x (P5.of hqq) (P5.of hqx))
          unfold RetR at hA
          have HG := Lib.hid A.out.2
          have HS := Lib.hid hstep
          clear hstep hx A hqq hqx
          generalize bs (l.getD j []) = s at *
          generalize bs (rtext q) = qt at *
          generalize bs (rtext x) = xt at *
          go_wp2_with fail
          refine (hX.out _).mono ?_
          rintro e1 w1 ⟨rfl, hg⟩
          go_wp2_with fail
          refine (hA.out _).mono ?_
          rintro e1 w2 ⟨rfl, hg2⟩
          have A2 : Aside (USum l (j + 1) (q + x) w w2) := ⟨HS.out, (HG.out.trans hg).trans hg2⟩
          clear hg hg2 HG HS hcc
          go_wp2_with fail
          go_roundg (gk - 1)
          case measure => have := HJ.out; omega
          case rel => exact ⟨j + 1, q + x, by have := HJ.out; omega, by go_num, rfl, A2.out⟩
      · have e1 : usumR l = .ok q := by have := A.out.1; rwa [List.take_of_length_le (by omega)] at this
        have hr := HR.out
        rw [e1] at hr
        simp only [] at hr
        have hBY := fun w => inRange13_c w q (P5.of hqq).p
        have HG := Lib.hid A.out.2
        clear e1 A
        cases hby : ubeyond q with
        | true =>
          rw [hby] at hr hBY
          simp only [if_true] at hr
          have hBY := Lib.hid hBY
          have hre := Lib.hid hr
          clear hr hby hqq
          generalize bs (rtext q) = qt at *
          go_wp2_with fail
          refine (hBY.out _).mono ?_
          rintro e1 w1 ⟨rfl, hg⟩
          go_wp2_with fail
          go_ret2
          exact ⟨by rw [← hre.out]; rfl, HG.out.trans hg⟩
        | false =>
          rw [hby] at hr hBY
          simp only [Bool.false_eq_true, if_false] at hr
          have hBY := Lib.hid hBY
          have hre := Lib.hid hr
          have hI := fun w => whole13_c w q (fun hd => by have := YtlmdpamehhcblaaGreatDoorD.beyond_int hby hd; omega) (P5.of hqq).p
          obtain ⟨va, vb, hv⟩ := parseV_two (uint q)
          rw [hv] at hI
          have hI := Lib.hid hI
          have hv := Lib.hid hv
          clear hr hby hqq
          generalize bs (rtext q) = qt at *
          go_wp2_with fail
          refine (hBY.out _).mono ?_
          rintro e1 w1 ⟨rfl, hg⟩
          go_wp2_with fail
          refine (hI.out _).mono ?_
          rintro e1 w2 ⟨rfl, hg2⟩
          go_wp2_with fail
          go_ret2
          exact ⟨by rw [← hre.out, hv.out]; rfl, (HG.out.trans hg).trans hg2⟩
/-- Few and short texts, or too many. -/
def fewB (l : List (List UInt8)) : Bool := !((decide (12 < l.length) && decide (l.length ≤ 256)) || decide (512 < l.length)) && l.all (fun s => decide (s.length ≤ 100))
set_option maxHeartbeats 1000000 in
theorem Few13_c (w : World) (p : Option Addr) (g off c : Nat) (l : List (List UInt8)) (hp : l ≠ [] → p = some ⟨g, off, none⟩) (hl : TextsAt w g off l) (hn : l.length ≤ 9223372036854775807) :
    Calls Tryz.prog 31 #[.slice p l.length c] w fun e w' => e = .returned (.bool (fewB l)) ∧ w' = w := by
  have HL := Lib.hid hl
  have HP := Lib.hid hp
  clear hl hp
  by_cases h1 : (12 < l.length ∧ l.length ≤ 256) ∨ 512 < l.length
  · have e : fewB l = false := by
      unfold fewB
      have : ((decide (12 < l.length) && decide (l.length ≤ 256)) || decide (512 < l.length)) = true := by simpa using h1
      rw [this]; rfl
    rw [e]
    clear e HL HP
    generalize l.length = n at *
    rcases h1 with ⟨h1, h2⟩ | h1
    · go_enter Tryz.func31, Tryz.ntmps31
      go_wp2_with fail
      go_ret
      exact ⟨rfl, rfl⟩
    · have h3 : ¬ n ≤ 256 := by omega
      have h4 : 12 < n := by omega
      go_enter Tryz.func31, Tryz.ntmps31
      go_wp2_with fail
      go_ret
      exact ⟨rfl, rfl⟩
  · have e : fewB l = l.all (fun s => decide (s.length ≤ 100)) := by
      unfold fewB
      have : ((decide (12 < l.length) && decide (l.length ≤ 256)) || decide (512 < l.length)) = false := by
        rw [Bool.eq_false_iff]; intro h; exact h1 (by simpa using h)
      rw [this]; rfl
    have HE := Lib.hid e
    have h2 : ¬ 512 < l.length := fun h => h1 (.inr h)
    have h3 : l.length ≤ 12 ∨ (12 < l.length ∧ 256 < l.length) := by omega
    clear e h1
    rcases h3 with h3 | ⟨h3, h4⟩
    all_goals (
      go_enter Tryz.func31, Tryz.ntmps31
      go_wp2_with fail
      go_loopg [3] l.length (fun k i wr => ∃ j : Nat, k + j = l.length ∧ i = .int .i64 j ∧ Aside (∀ m, m < j → (l.getD m []).length ≤ 100) ∧ wr = w)
      case atStart => exact ⟨0, rfl, rfl, fun m hm => absurd hm (by omega), rfl⟩
      case round =>
        obtain ⟨j, hj, rfl, A, rfl⟩ := hrel
        by_cases hlt : j < l.length
        · have hpp := HP.out (by intro e; rw [e] at hlt; simp at hlt)
          subst hpp
          have hcc := HL.out j hlt
          have hsz := bs_size (l.getD j [])
          by_cases hs : (l.getD j []).length ≤ 100
          · have A2 : Aside (∀ m, m < j + 1 → (l.getD m []).length ≤ 100) := fun m hm => (Nat.lt_succ_iff_lt_or_eq.1 hm).elim (A.out m) (fun e => by rw [e]; exact hs)
            rw [← hsz] at hs
            clear A hsz
            generalize bs (l.getD j []) = S at *
            go_wp2_with fail
            go_roundg (gk - 1)
            case measure => omega
            case rel => exact ⟨j + 1, by omega, by go_num, A2.out, rfl⟩
          · have hno : fewB l = false := by
              rw [HE.out, Bool.eq_false_iff]
              intro h
              have hm : l.getD j [] ∈ l := by rw [List.getD_eq_getElem?_getD, List.getElem?_eq_getElem hlt]; exact List.getElem_mem hlt
              exact hs (by simpa using List.all_eq_true.1 h _ hm)
            have HN := Lib.hid hno
            rw [← hsz] at hs
            clear A hsz hno
            generalize bs (l.getD j []) = S at *
            go_wp2_with fail
            go_ret
            exact ⟨by rw [HN.out]; rfl, rfl⟩
        · have hjl : j = l.length := by omega
          have hyes : fewB l = true := by
            rw [HE.out, List.all_eq_true]
            intro s hs
            obtain ⟨i, hi, rfl⟩ := List.getElem_of_mem hs
            have := A.out i (by omega)
            rw [List.getD_eq_getElem?_getD, List.getElem?_eq_getElem hi] at this
            simpa using this
          have HN := Lib.hid hyes
          clear A hyes
          go_wp2_with fail
          go_ret
          exact ⟨by rw [HN.out]; rfl, rfl⟩)
set_option maxHeartbeats 1000000 in
theorem Sums_c (w : World) (he : Env w) (p : Option Addr) (g off c : Nat) (l : List (List UInt8)) (hp : l ≠ [] → p = some ⟨g, off, none⟩) (hl : TextsAt w g off l) (hn : l.length ≤ 9223372036854775807) :
    Calls Tryz.prog 6 #[.slice p l.length c] w fun e w' => e = .returned (.bool true) ∧ Gr w w' := by
  have HA := Lib.hid (fun w he => awake13_c w he)
  have HE := Lib.hid he
  have HF := fun w hl => Few13_c w p g off c l hp hl hn
  cases hf : fewB l with
  | false =>
    rw [hf] at HF
    have HF := Lib.hid (HF w hl)
    clear he hp hl hf
    generalize l.length = n at *
    go_enter Tryz.func6, Tryz.ntmps6
    go_wp2_with fail
    refine HF.out.mono ?_
    rintro e w1 ⟨rfl, rfl⟩
    go_wp2_with fail
    refine (HA.out _ HE.out).mono ?_
    rintro e w2 ⟨rfl, hg⟩
    go_wp2_with fail
    go_ret
    exact ⟨rfl, hg⟩
  | true =>
    rw [hf] at HF
    have HF := Lib.hid (HF w hl)
    unfold fewB at hf
    rw [Bool.and_eq_true, Bool.not_eq_true', Bool.or_eq_false_iff, List.all_eq_true] at hf
    obtain ⟨⟨f1, f2⟩, f3⟩ := hf
    have f2 : l.length ≤ 512 := by simpa using f2
    have f1 : 12 < l.length → 256 < l.length := by
      intro h
      rw [decide_eq_true h, Bool.true_and] at f1
      simpa using f1
    have hb : ∀ s ∈ l, s.length ≤ 100 := fun s hs => by simpa using f3 s hs
    have hq : l.length ≤ 256 → ∀ j q, usumR (l.take j) = .ok q → Q q := fun h j q hj => YtlmdpamehhcblaaGreatDoorD.usum_Q (by omega) j q hj
    have X1 := fun w he hl => Sum_c w he p g off c l hp hl hn (fun s hs => by have := hb s hs; omega) hq
    have X2 := fun w hl => Sum13_c w p g off c l hp hl (by omega) (fun s hs => by have := hb s hs; omega) hq
    obtain ⟨x, d, hxd⟩ := parseV_two (usum l)
    rw [hxd] at X1 X2
    have X1 := Lib.hid X1; have X2 := Lib.hid X2
    have HL := Lib.hid hl
    clear he hp hl f1 f2 f3 hb hq hxd hn
    go_enter Tryz.func6, Tryz.ntmps6
    go_wp2_with fail
    refine HF.out.mono ?_
    rintro e w1 ⟨rfl, rfl⟩
    go_wp2_with fail
    refine (X1.out _ HE.out HL.out).mono ?_
    rintro e w2 ⟨rfl, hg1⟩
    go_wp2_with fail
    refine (X2.out _ (HL.out.gr hg1)).mono ?_
    rintro e w3 ⟨rfl, hg2⟩
    have G2 := hg1.trans hg2
    clear hg1 hg2
    go_wp2_with fail
    refine (HA.out _ (HE.out.gr G2)).mono ?_
    rintro e w4 ⟨rfl, hg4⟩
    go_wp2_with fail
    go_ret
    exact ⟨by simp, G2.trans hg4⟩
end Go.Proofs.YtlmdpamehhcblaaGreatDoor
