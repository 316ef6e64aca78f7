import Derived.Test.YtlmdpamehhcblaaGreatDoorLy
/- Contracts of the reference of the lexer: Join, Normal. -/
namespace Go.Proofs.YtlmdpamehhcblaaGreatDoor
open Go.RowKit Go.Shelf
open YtlmdpamehhcblaaGreatDoorD (isDig isLet cls marks spanN wlen nlen nfront werr nerr nextT scanF scanT Tok formT apartT tok0 glueN ferrF joinT normT)

theorem apart_eq (a b : Int) : apartT a b = ((a == 0 && (b == 0 || b == 1)) || (a == 1 && b == 1)) := by
  unfold YtlmdpamehhcblaaGreatDoorD.apartT
  cases (a == 0) <;> cases (a == 1) <;> cases (b == 0) <;> cases (b == 1) <;> rfl
set_option maxHeartbeats 4000000 in
set_option maxRecDepth 20000 in
theorem Join14_c (w : World) (b : Option Addr) (g off c : Nat) (l : List Tok) (hb : l ≠ [] → b = some ⟨g, off, none⟩) (hl : TokAt w g off l) (hn : l.length ≤ 4611686018427387904) (hs : ∀ j, (l.getD j tok0).text.length ≤ 4611686018427387904) :
    Calls Tryz.prog 58 #[.slice b l.length c] w (RetJoin (joinT l) w) := by
  have e : joinT l = (if 4097 < l.length then ([], 5) else if ferrF l l.length 0 ≠ 0 then ([], ferrF l l.length 0)
    else if 4096 < (glueN l l.length).length then ([], 17) else (glueN l l.length, 0)) := rfl
  by_cases hbig : 4097 < l.length
  · rw [if_pos hbig] at e
    rw [e]
    unfold RetJoin
    clear e
    go_enter Tryz.func58, Tryz.ntmps58
    go_wp2_with fail
    go_ret2
    exact ⟨rfl, Gr.refl w⟩
  · rw [if_neg hbig] at e
    unfold RetJoin
    have HE := Lib.hid e
    have HL := Lib.hid hl
    have HB := Lib.hid hb
    have HF := Lib.hid (fun w (j : Nat) last => form14_c w (l.getD j tok0) last (hs j))
    unfold tval at HF
    clear e hl hb hs
    go_enter Tryz.func58, Tryz.ntmps58
    go_wp2_with fail
    go_loopg [4] l.length (fun N p wr => ∃ (j : Nat), p = .int .i64 j ∧ N + j = l.length ∧ Aside (Gr w wr ∧ ferrF l (l.length - j) j = ferrF l l.length 0 ∧ ∀ k, k < j → (l.getD k tok0).text.length ≤ 24))
    case atStart => exact ⟨0, rfl, rfl, Gr.refl w, rfl, fun k hk => absurd hk (Nat.not_lt_zero _)⟩
    case round =>
      obtain ⟨j, rfl, hj, A⟩ := hrel
      have HJ := Lib.hid hj; clear hj
      by_cases hlt : j < l.length
      · obtain rfl := HB.out (fun h => by rw [h] at hlt; simp at hlt)
        obtain ⟨t1, t2, t3⟩ := (HL.out.gr A.out.1) j hlt
        have HFj := Lib.hid (fun w last => HF.out w j last)
        have hlast : ((j : Int) == (l.length : Int) - 1) = decide (j + 1 = l.length) := by
          rw [Bool.eq_iff_iff, beq_iff_eq, decide_eq_true_iff]; omega
        have HX := Lib.hid (YtlmdpamehhcblaaGreatDoorD.ferrF_err hlt)
        have HO := Lib.hid (YtlmdpamehhcblaaGreatDoorD.ferrF_ok hlt)
        by_cases he : formT (l.getD j tok0) (decide (j + 1 = l.length)) = 0
        · have htl := Lib.hid (YtlmdpamehhcblaaGreatDoorD.formT_len he)
          have HP := Lib.hid ((HO.out he).symm.trans A.out.2.1)
          have HFj := Lib.hid (fun w => HFj.out w (decide (j + 1 = l.length)))
          rw [he] at HFj
          clear HX HO he
          generalize l.getD j tok0 = t at HFj t1 t2 t3
          go_wp2_with fail
          refine (HFj.out _).mono ?_
          rintro e w1 ⟨rfl, hg1⟩
          have G1 := Lib.hid (A.out.1.trans hg1)
          clear hg1
          go_wp2_with fail
          go_roundg (gk - 1)
          case measure => have := HJ.out; omega
          case rel =>
            refine ⟨j + 1, by go_num, by have := HJ.out; omega, G1.out, HP.out, fun k hk => ?_⟩
            rcases Nat.lt_succ_iff_lt_or_eq.1 hk with h | h
            · exact A.out.2.2 k h
            · rw [h]; exact htl.out
        · have HFj := Lib.hid (fun w => HFj.out w (decide (j + 1 = l.length)))
          have hx := HX.out he
          rw [A.out.2.1] at hx
          have HJ2 := HE.out
          rw [hx, if_pos he] at HJ2
          have HJ2 := Lib.hid HJ2
          clear HX HO hx
          have kE : ¬ ((formT (l.getD j tok0) (decide (j + 1 = l.length)) : Nat) : Int) = 0 := by omega
          generalize formT (l.getD j tok0) (decide (j + 1 = l.length)) = q at *
          generalize l.getD j tok0 = t at HFj t1 t2 t3
          go_wp2_with fail
          refine (HFj.out _).mono ?_
          rintro e w1 ⟨rfl, hg1⟩
          go_wp2_with fail
          go_ret2
          rw [HJ2.out]
          exact ⟨rfl, A.out.1.trans hg1⟩
      · have hjl : j = l.length := by have := HJ.out; omega
        subst hjl
        have hx := A.out.2.1
        rw [YtlmdpamehhcblaaGreatDoorD.ferrF_end (Nat.le_refl _)] at hx
        have HJ2 := HE.out
        rw [← hx, if_neg (by simp)] at HJ2
        have HJ2 := Lib.hid HJ2
        have HT := Lib.hid A.out.2.2
        have G0 := Lib.hid A.out.1
        have gk0 := gk
        clear hx A HE HF
        go_wp2_with fail
        go_loopg [6, 7] l.length (fun N p6 p7 wr2 => ∃ (i : Nat), p6 = .string (bs (glueN l i)) ∧ p7 = .int .i64 i ∧ N + i = l.length ∧ Aside ((glueN l i).length ≤ 25 * i ∧ wr2 = wr))
        case atStart => exact ⟨0, rfl, rfl, rfl, Nat.le_refl _, rfl⟩
        case round =>
          obtain ⟨i, rfl, rfl, hi, A⟩ := hrel
          have HI := Lib.hid hi
          have hw2 := A.out.2
          subst hw2
          have hlen := A.out.1
          clear hi A
          by_cases hlt : i < l.length
          · obtain rfl := HB.out (fun h => by rw [h] at hlt; simp at hlt)
            obtain ⟨t1, t2, t3⟩ := (HL.out.gr G0.out) i hlt
            have htl := HT.out i hlt
            have sA := bs_size (glueN l i)
            have sT := bs_size (l.getD i tok0).text
            rcases Nat.eq_zero_or_pos i with h0 | hp
            · subst h0
              have HG := Lib.hid (show glueN l 1 = (l.getD 0 tok0).text from YtlmdpamehhcblaaGreatDoorD.glueN_first l)
              have eg : glueN l 0 = [] := rfl
              simp only [Nat.zero_mul, Nat.add_zero] at t1 t2 t3
              rw [eg] at sA hlen ⊢
              generalize (l.getD 0 tok0).text = tt at *
              generalize (l.getD 0 tok0).kind = kk at *
              have hz1 : (bs ([] : List UInt8)).size + (bs tt).size ≤ 1000000 := by rw [sA, sT]; simp; omega
              go_wp2_with fail
              go_roundg (gk - 1)
              case measure => have := HI.out; omega
              case rel => exact ⟨1, by rw [HG.out, bs_append, List.nil_append], rfl, by have := HI.out; omega, by rw [HG.out]; omega, rfl⟩
            · obtain ⟨k, rfl⟩ : ∃ k, i = k + 1 := ⟨i - 1, by omega⟩
              have p0 := ((HL.out.gr G0.out) k (by omega)).1
              have hG1 := Lib.hid (fun h => YtlmdpamehhcblaaGreatDoorD.glueN_near (l := l) (i := k) h)
              have hG2 := Lib.hid (fun h => YtlmdpamehhcblaaGreatDoorD.glueN_apart (l := l) (i := k) h)
              have hq := apart_eq (l.getD k tok0).kind (l.getD (k + 1) tok0).kind
              have hz1 : (bs (glueN l (k + 1))).size + (bs (l.getD (k + 1) tok0).text).size ≤ 1000000 := by rw [sA, sT]; omega
              have hz2 : (bs (glueN l (k + 1))).size ≤ 900000 := by rw [sA]; omega
              generalize (l.getD (k + 1) tok0).text = tt at *
              generalize (l.getD (k + 1) tok0).kind = kb at *
              generalize (l.getD k tok0).kind = ka at *
              obtain ⟨q, hqq⟩ : ∃ q, q = apartT ka kb := ⟨_, rfl⟩
              rw [← hqq] at hq
              have HQ := Lib.hid hqq
              have HQ2 := Lib.hid hq
              clear hq hqq
              go_upto_region 16 with fail
              go_cut [68] (fun s68 wx => s68 = .bool q ∧ wx = wr)
              case first =>
                by_cases a0 : ka = 0
                · have a0b : (ka == 0) = true := by rw [a0]; rfl
                  by_cases b0 : kb = 0
                  · have b0b : (kb == 0) = true := by rw [b0]; rfl
                    have hqv : q = true := by rw [HQ2.out, a0, b0]; rfl
                    have HV := Lib.hid hqv
                    clear hqv a0 b0
                    go_wp2_with fail
                    go_meet
                    exact ⟨by rw [HV.out], rfl⟩
                  · have b0b : (kb == 0) = false := beq_eq_false_iff_ne.2 b0
                    have hqv : q = (kb == 1) := by rw [HQ2.out, a0, b0b]; simp
                    have a1b : (ka == 1) = false := by rw [a0]; rfl
                    cases b1b : (kb == 1)
                    all_goals (
                      have HV := Lib.hid hqv
                      rw [b1b] at HV
                      clear hqv a0 b0
                      go_wp2_with fail
                      go_meet
                      exact ⟨by rw [HV.out], rfl⟩)
                · have a0b : (ka == 0) = false := beq_eq_false_iff_ne.2 a0
                  cases a1b : (ka == 1)
                  · have hqv : q = false := by rw [HQ2.out, a0b, a1b]; rfl
                    have HV := Lib.hid hqv
                    clear hqv a0
                    go_wp2_with fail
                    go_meet
                    exact ⟨by rw [HV.out], rfl⟩
                  · have hqv : q = (kb == 1) := by rw [HQ2.out, a0b, a1b]; simp
                    cases b1b : (kb == 1)
                    all_goals (
                      have HV := Lib.hid hqv
                      rw [b1b] at HV
                      clear hqv a0
                      go_wp2_with fail
                      go_meet
                      exact ⟨by rw [HV.out], rfl⟩)
              case rest =>
              obtain ⟨rfl, rfl⟩ := hcut
              cases q with
              | false =>
                have HG := Lib.hid (hG1.out HQ.out.symm)
                clear hG1 hG2
                go_wp2_with fail
                go_roundg (gk - 1)
                case measure => have := HI.out; omega
                case rel => exact ⟨k + 1 + 1, by rw [HG.out, bs_append], by go_num, by have := HI.out; omega, by rw [HG.out, List.length_append]; omega, rfl⟩
              | true =>
                have HG := Lib.hid (hG2.out HQ.out.symm)
                have hz3 : (bs (glueN l (k + 1)) ++ { data := #[32] }).size + (bs tt).size ≤ 1000000 := by
                  rw [show ({ data := #[32] } : ByteArray) = bs [32] from rfl, bs_append, bs_size, sT, List.length_append]; simp; omega
                clear hG1 hG2
                go_wp2_with fail
                go_roundg (gk - 1)
                case measure => have := HI.out; omega
                case rel => exact ⟨k + 1 + 1, by rw [HG.out, ← bs_append, ← bs_append]; rfl, by go_num, by have := HI.out; omega, by rw [HG.out, List.length_append, List.length_append]; simp; omega, rfl⟩
          · have hil : i = l.length := by have := HI.out; omega
            subst hil
            have sR := bs_size (glueN l l.length)
            generalize glueN l l.length = r at *
            by_cases hr : 4096 < r.length
            · go_wp2_with fail
              go_ret2
              rw [HJ2.out, if_pos hr]
              exact ⟨rfl, G0.out⟩
            · go_wp2_with fail
              go_ret2
              rw [HJ2.out, if_neg hr]
              exact ⟨rfl, G0.out⟩
end Go.Proofs.YtlmdpamehhcblaaGreatDoor
