import Derived.Test.YtlmdpamehhcblaaGreatDoorLx
/- Contracts of the reference of the lexer: first, Scan, form, Join, Normal. -/
namespace Go.Proofs.YtlmdpamehhcblaaGreatDoor
open Go.RowKit Go.Shelf
open YtlmdpamehhcblaaGreatDoorD (isDig isLet cls marks spanN wlen nlen nfront werr nerr nextT scanF scanT Tok formT apartT tok0 glueN ferrF joinT normT)

theorem wlen0 {s : List UInt8} (h0 : s ≠ []) : wlen s = 0 ↔ cls (s.getD 0 0) ≠ 1 := by
  obtain ⟨c, r, rfl⟩ := List.exists_cons_of_ne_nil h0
  unfold YtlmdpamehhcblaaGreatDoorD.wlen
  rw [List.getD_cons_zero]
  by_cases h : cls c = 1
  · rw [if_pos h, YtlmdpamehhcblaaGreatDoorD.spanN_cons, if_pos (by rw [h]; rfl)]; simp [h]
  · rw [if_neg h]; simp [h]
theorem nlen0 {s : List UInt8} (h0 : s ≠ []) : nlen s = 0 ↔ cls (s.getD 0 0) ≠ 2 := by
  obtain ⟨c, r, rfl⟩ := List.exists_cons_of_ne_nil h0
  rw [List.getD_cons_zero]
  have hn : nfront (c :: r) = if cls c = 2 then nfront r + 1 else 0 := by
    unfold nfront
    rw [YtlmdpamehhcblaaGreatDoorD.spanN_cons]
    by_cases h : cls c = 2
    · rw [if_pos (by rw [h]; rfl), if_pos h]
    · rw [if_neg (by simp [h]), if_neg h]
  by_cases h : cls c = 2
  · have := YtlmdpamehhcblaaGreatDoorD.nlen_ge (c :: r)
    rw [if_pos h] at hn
    constructor
    · intro e; omega
    · intro e; exact absurd h e
  · rw [if_neg h] at hn
    have : nlen (c :: r) = 0 := by unfold YtlmdpamehhcblaaGreatDoorD.nlen; rw [hn, if_pos (.inl rfl)]
    simp [this, h]
set_option maxHeartbeats 2000000 in
theorem first_c (w : World) (s : List UInt8) (h0 : s ≠ []) (hs : s.length ≤ 4611686018427387904) :
    Calls Tryz.prog 123 #[.string (bs s)] w fun e w' => e = .returned (.tuple #[.int .i64 (nextT s).1, .int .i64 ((nextT s).2.1 : Nat), .int .i64 ((nextT s).2.2 : Nat)]) ∧ w' = w := by
  have hsz := bs_size s
  have hp : 0 < s.length := List.length_pos_iff.2 h0
  have hz : 0 < (bs s).size := by omega
  have e : nextT s = (if cls (s.getD 0 0) = 1 then (0, wlen s, werr (s.take (wlen s))) else if cls (s.getD 0 0) = 2 then (1, nlen s, nerr (s.take (nlen s))) else if cls (s.getD 0 0) = 4 then (2, 1, 0) else (0, 0, 4)) := rfl
  have HW := Lib.hid (fun w => wordly_c w s hs)
  have HN := Lib.hid (fun w => numeral_c w s hs)
  have w0 := wlen0 h0
  have n0 := nlen0 h0
  have hwl := YtlmdpamehhcblaaGreatDoorD.wlen_le s
  have hnl := YtlmdpamehhcblaaGreatDoorD.nlen_le s
  by_cases h1 : cls (s.getD 0 0) = 1
  · rw [if_pos h1] at e
    rw [e]
    have HE := Lib.hid (fun w => Word14_c w (s.take (wlen s)) (by rw [List.length_take]; omega))
    have hd := bs_take s (wlen s)
    have hp0 : (0 : Int) < (wlen s : Nat) := by
      have : wlen s ≠ 0 := fun x => w0.1 x h1
      omega
    generalize werr (s.take (wlen s)) = r at *
    generalize wlen s = n at *
    clear e h1 h0 w0 n0 HN hnl
    dsimp only
    go_enter Tryz.func123, Tryz.ntmps123
    go_wp2_with fail
    refine (HW.out _).mono ?_
    rintro e w1 ⟨rfl, rfl⟩
    go_wp2_with fail
    refine (HE.out _).mono ?_
    rintro e w1 ⟨rfl, rfl⟩
    go_wp2_with fail
    go_ret3
    exact ⟨rfl, rfl⟩
  · have hw0 := w0.2 h1
    rw [hw0] at HW
    rw [if_neg h1] at e
    by_cases h2 : cls (s.getD 0 0) = 2
    · rw [if_pos h2] at e
      rw [e]
      have HE := Lib.hid (fun w => Number14_c w (s.take (nlen s)) (by rw [List.length_take]; omega))
      have hd := bs_take s (nlen s)
      have hp0 : (0 : Int) < (nlen s : Nat) := by
        have : nlen s ≠ 0 := fun x => n0.1 x h2
        omega
      generalize nerr (s.take (nlen s)) = r at *
      generalize nlen s = n at *
      clear e h1 h0 h2 w0 n0 hw0 hwl
      dsimp only
      go_enter Tryz.func123, Tryz.ntmps123
      go_wp2_with fail
      refine (HW.out _).mono ?_
      rintro e w1 ⟨rfl, rfl⟩
      go_wp2_with fail
      refine (HN.out _).mono ?_
      rintro e w1 ⟨rfl, rfl⟩
      go_wp2_with fail
      refine (HE.out _).mono ?_
      rintro e w1 ⟨rfl, rfl⟩
      go_wp2_with fail
      go_ret3
      exact ⟨rfl, rfl⟩
    · have hn0 := n0.2 h2
      rw [hn0] at HN
      rw [if_neg h2] at e
      have HM := Lib.hid (fun w => Mark_c w ((bs s)[0]'hz))
      rw [mark_cls, get0_cls s hz] at HM
      by_cases h4 : cls (s.getD 0 0) = 4
      · rw [if_pos h4] at e
        rw [e]
        rw [decide_eq_true h4] at HM
        clear e h1 h0 h2 h4 w0 n0 hw0 hn0 hwl hnl
        dsimp only
        rw [← get0_cls s hz] at HM
        go_enter Tryz.func123, Tryz.ntmps123
        go_wp2_with fail
        refine (HW.out _).mono ?_
        rintro e w1 ⟨rfl, rfl⟩
        go_wp2_with fail
        refine (HN.out _).mono ?_
        rintro e w1 ⟨rfl, rfl⟩
        go_wp2_with fail
        refine (HM.out _).mono ?_
        rintro e w1 ⟨rfl, rfl⟩
        go_wp2_with fail
        go_ret3
        exact ⟨rfl, rfl⟩
      · rw [if_neg h4] at e
        rw [e]
        rw [decide_eq_false h4] at HM
        clear e h1 h0 h2 h4 w0 n0 hw0 hn0 hwl hnl
        dsimp only
        rw [← get0_cls s hz] at HM
        go_enter Tryz.func123, Tryz.ntmps123
        go_wp2_with fail
        refine (HW.out _).mono ?_
        rintro e w1 ⟨rfl, rfl⟩
        go_wp2_with fail
        refine (HN.out _).mono ?_
        rintro e w1 ⟨rfl, rfl⟩
        go_wp2_with fail
        refine (HM.out _).mono ?_
        rintro e w1 ⟨rfl, rfl⟩
        go_wp2_with fail
        go_ret3
        exact ⟨rfl, rfl⟩
theorem first_g (w : World) (s : List UInt8) (h0 : s ≠ []) (hs : s.length ≤ 4611686018427387904) :
    Calls Tryz.prog 123 #[.string (bs s)] w fun e w' => e = .returned (.tuple #[.int .i64 (nextT s).1, .int .i64 ((nextT s).2.1 : Nat), .int .i64 ((nextT s).2.2 : Nat)]) ∧ Gr w w' :=
  (first_c w s h0 hs).mono fun _ _ h => ⟨h.1, gr_of_eq h.2⟩
theorem blank_cls (c : UInt8) : (((c.toNat : Nat) : Int) == 32) = decide (cls c = 5) := by
  have key : (List.range 256).all (fun n => (((UInt8.ofNat n).toNat : Int) == 32) == decide (cls (UInt8.ofNat n) = 5)) = true := by kernel_rfl
  have h := List.all_eq_true.1 key c.toNat (List.mem_range.2 (UInt8.toNat_lt c))
  rw [show UInt8.ofNat c.toNat = c by simp] at h
  exact eq_of_beq h
theorem blank_get (s : List UInt8) (j : Nat) (hz : j < (bs s).size) : ((((bs s)[j]'hz).toNat : Int) == 32) = decide (cls ((s.drop j).getD 0 0) = 5) := by
  have hj2 : j < s.length := by rw [bs_size] at hz; exact hz
  rw [blank_cls, getD_drop, List.getD_eq_getElem?_getD, List.getElem?_eq_getElem hj2]; rfl
set_option maxHeartbeats 2000000 in
set_option maxRecDepth 20000 in
theorem Scan14_c (w : World) (s : List UInt8) (hs : s.length ≤ 4611686018427387904) : Calls Tryz.prog 52 #[.string (bs s)] w (RetScan (scanT s) w) := by
  have hsz := bs_size s
  by_cases hbig : 4096 < s.length
  · have e : scanT s = ([], 0, 17) := by unfold YtlmdpamehhcblaaGreatDoorD.scanT; rw [if_pos hbig]
    rw [e]
    unfold RetScan
    go_enter Tryz.func52, Tryz.ntmps52
    go_wp2_with fail
    go_ret3
    exact ⟨_, rfl, TokRow.nil _ _, Gr.refl w⟩
  · have e : scanF (s.length + 1) s 0 [] = scanT s := by unfold YtlmdpamehhcblaaGreatDoorD.scanT; rw [if_neg hbig]
    have HE := Lib.hid e
    obtain ⟨i85, hi, hz0, hz1, hz2⟩ := info_parts info85
    clear e
    go_enter Tryz.func52, Tryz.ntmps52
    go_wp2_with fail
    go_loopg [5, 6] s.length (fun N v p wr => ∃ (j : Nat) (L : List Tok) (f : Nat), p = .int .i64 j ∧ N + j = s.length ∧ Aside (TokRow w.heap.size wr v L ∧ Gr w wr ∧ L.length ≤ j ∧ (s.drop j).length < f ∧ scanF f (s.drop j) j L = scanT s))
    case atStart => exact ⟨0, [], s.length + 1, rfl, rfl, TokRow.nil _ _, Gr.refl w, Nat.le_refl _, by simp, HE.out⟩
    case round =>
      clear HE
      obtain ⟨j, L, f, rfl, hj, A⟩ := hrel
      have HJ := Lib.hid hj; clear hj
      obtain ⟨f, rfl⟩ : ∃ f', f = f' + 1 := ⟨f - 1, by have := A.out.2.2.2.1; omega⟩
      by_cases hlt : j < s.length
      · have hz : j < (bs s).size := by omega
        have hne : s.drop j ≠ [] := by
          intro h; have := congrArg List.length h; rw [List.length_drop, List.length_nil] at this; omega
        by_cases hb : cls ((s.drop j).getD 0 0) = 5
        · have h32 := blank_get s j hz
          rw [hb, decide_eq_true rfl] at h32
          go_wp2_with fail
          go_roundg (gk - 1)
          case measure => have := HJ.out; omega
          case rel =>
            have hA := A.out
            refine ⟨j + 1, L, f, by go_num, by have := HJ.out; omega, hA.1, hA.2.1, by omega, ?_, ?_⟩
            · have := hA.2.2.2.1; rw [List.length_drop] at this ⊢; omega
            · rw [← hA.2.2.2.2, YtlmdpamehhcblaaGreatDoorD.scanF_blank hne hb, List.drop_drop]
        · have h32 := blank_get s j hz
          rw [decide_eq_false hb] at h32
          have HN := Lib.hid (first_g wr (s.drop j) hne (by rw [List.length_drop]; omega))
          have hd := bs_drop s j
          have nle := YtlmdpamehhcblaaGreatDoorD.nextT_le hne
          rw [List.length_drop] at nle
          by_cases he : (nextT (s.drop j)).2.2 = 0
          · have npos := YtlmdpamehhcblaaGreatDoorD.nextT_pos hne he
            have hsf := YtlmdpamehhcblaaGreatDoorD.scanF_tok (f := f) (p := j) (acc := L) hne hb he
            rw [A.out.2.2.2.2] at hsf
            have HSF := Lib.hid hsf
            rw [he] at HN
            have hsub := bs_sub s j (nextT (s.drop j)).2.1
            clear hsf he
            generalize (nextT (s.drop j)).1 = k at *
            generalize (nextT (s.drop j)).2.1 = n at *
            have hown := A.out.1
            have hLj := A.out.2.2.1
            go_wp2_with fail
            refine HN.out.mono ?_
            rintro e w2 ⟨rfl, hg2⟩
            have G2 := Lib.hid (A.out.2.1.trans hg2)
            have hown2 : w2.ownsRow w.heap.size 85 3 _ L.length (L.flatMap tcells) := hown.gr hg2
            clear hg2
            go_wp2_with (at_builtin; refine wpList_append_lies _ rfl _ _ 67 rfl w.heap.size 85 i85 _ 3 32 Tryz.underlying67 hi hz0 hz1 hz2 rfl (by decide) _ _ _ rfl (hown2.alloc _) ⟨w2.heap.size, 0, none⟩ 1 1 [.int .i64 k, .string (bs ((s.drop j).take n)), .int .i64 j] rfl rfl (news3 w2 _ _ _ _) (by intro u hu; simp at hu; rcases hu with rfl | rfl | rfl <;> rfl) (by decide) (by unfold maxLen; omega) (by omega) (by have := G2.out.size; simp; omega) _ rfl ?_)
            intro g cap w3 hown3 hgrow hat hlt3
            have e4 : L.flatMap tcells ++ [.int .i64 k, .string (bs ((s.drop j).take n)), .int .i64 j] = (L ++ [(⟨k, (s.drop j).take n, j⟩ : Tok)]).flatMap tcells := by rw [List.flatMap_append]; rfl
            have e5 : (L ++ [(⟨k, (s.drop j).take n, j⟩ : Tok)]).length = L.length + 1 := by rw [List.length_append]; rfl
            rw [e4] at hown3
            have A2 : Aside (TokRow w.heap.size w3 (.slice (some ⟨g, 0, none⟩) (L.length + 1) cap) (L ++ [⟨k, (s.drop j).take n, j⟩]) ∧ Gr w w3) := ⟨by unfold TokRow; rw [e5]; exact hown3, (G2.out.alloc _).grown hgrow (owns_row_ge hown)⟩
            have B2 : Aside ((s.drop j).length < f + 1) := A.out.2.2.2.1
            clear hown3 hgrow hat hlt3 A hown hown2 e4 G2
            go_wp2_with fail
            go_roundg (gk - n)
            case measure => have := HJ.out; omega
            case rel =>
              refine ⟨j + n, L ++ [⟨k, (s.drop j).take n, j⟩], f, by go_num, by have := HJ.out; omega, by rw [e5] at *; exact A2.out.1, A2.out.2, by omega, ?_, ?_⟩
              · have := B2.out; rw [List.length_drop] at this ⊢; omega
              · rw [HSF.out, List.drop_drop]
          · have hsf := YtlmdpamehhcblaaGreatDoorD.scanF_err (f := f) (p := j) (acc := L) hne hb he
            rw [A.out.2.2.2.2] at hsf
            rw [hsf]
            have kE : ¬ (((nextT (s.drop j)).2.2 : Nat) : Int) = 0 := by omega
            clear hsf he
            generalize (nextT (s.drop j)).1 = k at *
            generalize (nextT (s.drop j)).2.1 = n at *
            generalize (nextT (s.drop j)).2.2 = q at *
            go_wp2_with fail
            refine HN.out.mono ?_
            rintro e w2 ⟨rfl, hg2⟩
            go_wp2_with fail
            go_ret3
            exact ⟨_, rfl, TokRow.nil _ _, A.out.2.1.trans hg2⟩
      · have hjl : j = s.length := by have := HJ.out; omega
        subst hjl
        have hend := A.out.2.2.2.2
        rw [List.drop_of_length_le (Nat.le_refl _), YtlmdpamehhcblaaGreatDoorD.scanF_end] at hend
        have HD := Lib.hid hend
        have hown := A.out.1
        have hLj := A.out.2.2.1
        clear hend
        go_wp2_with (at_builtin; refine wpList_append_lies _ rfl _ _ 67 rfl w.heap.size 85 i85 _ 3 32 Tryz.underlying67 hi hz0 hz1 hz2 rfl (by decide) _ _ _ rfl (hown.alloc _) ⟨wr.heap.size, 0, none⟩ 1 1 [.int .i64 3, .string (bs []), .int .i64 s.length] rfl rfl (news3 wr _ _ _ _) (by intro u hu; simp at hu; rcases hu with rfl | rfl | rfl <;> rfl) (by decide) (by unfold maxLen; omega) (by omega) (by have := A.out.2.1.size; simp; omega) _ rfl ?_)
        intro g cap w3 hown3 hgrow hat hlt3
        have e4 : L.flatMap tcells ++ [.int .i64 3, .string (bs []), .int .i64 s.length] = (L ++ [(⟨3, [], s.length⟩ : Tok)]).flatMap tcells := by rw [List.flatMap_append]; rfl
        have e5 : (L ++ [(⟨3, [], s.length⟩ : Tok)]).length = L.length + 1 := by rw [List.length_append]; rfl
        rw [e4] at hown3
        have A2 : Aside (TokRow w.heap.size w3 (.slice (some ⟨g, 0, none⟩) (L.length + 1) cap) (L ++ [⟨3, [], s.length⟩]) ∧ Gr w w3) := ⟨by unfold TokRow; rw [e5]; exact hown3, (A.out.2.1.alloc _).grown hgrow (owns_row_ge hown)⟩
        clear hown3 hgrow hat hlt3 A hown e4
        go_wp2_with fail
        go_ret3
        rw [← HD.out]
        exact ⟨_, rfl, A2.out.1, A2.out.2⟩
theorem Word14_g (w : World) (s : List UInt8) (hs : s.length ≤ 4611686018427387904) : Calls Tryz.prog 47 #[.string (bs s)] w fun e w' => e = .returned (.int .i64 (werr s : Nat)) ∧ Gr w w' := (Word14_c w s hs).mono fun _ _ h => ⟨h.1, gr_of_eq h.2⟩
theorem Number14_g (w : World) (s : List UInt8) (hs : s.length ≤ 4611686018427387904) : Calls Tryz.prog 49 #[.string (bs s)] w fun e w' => e = .returned (.int .i64 (nerr s : Nat)) ∧ Gr w w' := (Number14_c w s hs).mono fun _ _ h => ⟨h.1, gr_of_eq h.2⟩
theorem Mark0_c (s : List UInt8) (hz : 0 < (bs s).size) (w : World) : Calls Tryz.prog 154 #[.int .u8 (((bs s)[0]'hz).toNat : Int)] w fun e w' => e = .returned (.bool (decide (cls (s.getD 0 0) = 4))) ∧ w' = w := by
  have := Mark_c w ((bs s)[0]'hz)
  rw [mark_cls] at this
  rwa [show cls ((bs s)[0]'hz) = cls (s.getD 0 0) by rw [get0_cls s hz]] at this
set_option maxHeartbeats 1000000 in
theorem form14_c (w : World) (t : Tok) (last : Bool) (hs : t.text.length ≤ 4611686018427387904) : Calls Tryz.prog 130 #[tval t, .bool last] w fun e w' => e = .returned (.int .i64 (formT t last : Nat)) ∧ Gr w w' := by
  have e : formT t last = (if t.kind = 0 then werr t.text else if t.kind = 1 then nerr t.text
    else if t.kind = 2 then (if t.text.length = 1 ∧ cls (t.text.getD 0 0) = 4 then 0 else 3)
    else if t.kind = 3 then (if last then (if t.text = [] then 0 else 3) else 9) else 1) := rfl
  have HW := Lib.hid (fun w => Word14_g w t.text hs)
  have HN := Lib.hid (fun w => Number14_g w t.text hs)
  unfold tval
  obtain ⟨k, s, p⟩ := t
  dsimp only at *
  have hsz := bs_size s
  by_cases h0 : k = 0
  · subst h0
    rw [if_pos rfl] at e
    rw [e]
    clear e HN
    generalize werr s = r at *
    go_enter Tryz.func130, Tryz.ntmps130
    go_wp2_with fail
    refine (HW.out _).mono ?_
    rintro e w1 ⟨rfl, hg1⟩
    go_wp2_with fail
    go_ret
    exact ⟨rfl, ((Gr.refl w).alloc _).trans hg1⟩
  · rw [if_neg h0] at e
    by_cases h1 : k = 1
    · subst h1
      rw [if_pos rfl] at e
      rw [e]
      clear e HW
      generalize nerr s = r at *
      go_enter Tryz.func130, Tryz.ntmps130
      go_wp2_with fail
      refine (HN.out _).mono ?_
      rintro e w1 ⟨rfl, hg1⟩
      go_wp2_with fail
      go_ret
      exact ⟨rfl, ((Gr.refl w).alloc _).trans hg1⟩
    · rw [if_neg h1] at e
      by_cases h2 : k = 2
      · subst h2
        rw [if_pos rfl] at e
        clear HN HW
        by_cases hl : s.length = 1
        · have hz : 0 < (bs s).size := by omega
          by_cases hc : cls (s.getD 0 0) = 4
          · rw [if_pos ⟨hl, hc⟩] at e
            rw [e]
            have HC := Lib.hid (fun w => Mark0_c s hz w)
            rw [decide_eq_true hc] at HC
            clear e hc
            go_enter Tryz.func130, Tryz.ntmps130
            go_wp2_with fail
            refine (HC.out _).mono ?_
            rintro e w1 ⟨rfl, rfl⟩
            go_wp2_with fail
            go_ret
            exact ⟨rfl, ((Gr.refl w).alloc _)⟩
          · rw [if_neg (fun x => hc x.2)] at e
            rw [e]
            have HC := Lib.hid (fun w => Mark0_c s hz w)
            rw [decide_eq_false hc] at HC
            clear e hc
            go_enter Tryz.func130, Tryz.ntmps130
            go_wp2_with fail
            refine (HC.out _).mono ?_
            rintro e w1 ⟨rfl, rfl⟩
            go_wp2_with fail
            go_ret
            exact ⟨rfl, ((Gr.refl w).alloc _)⟩
        · rw [if_neg (fun x => hl x.1)] at e
          rw [e]
          have k4 : ¬ ((s.length : Nat) : Int) = 1 := by omega
          have k4b : (((s.length : Nat) : Int) != 1) = true := bne_iff_ne.2 k4
          clear e
          go_enter Tryz.func130, Tryz.ntmps130
          go_wp2_with fail
          go_ret
          exact ⟨rfl, ((Gr.refl w).alloc _)⟩
      · rw [if_neg h2] at e
        clear HN HW
        by_cases h3 : k = 3
        · subst h3
          rw [if_pos rfl] at e
          cases last with
          | false =>
            rw [if_neg (by simp)] at e
            rw [e]
            clear e
            go_enter Tryz.func130, Tryz.ntmps130
            go_wp2_with fail
            go_ret
            exact ⟨rfl, ((Gr.refl w).alloc _)⟩
          | true =>
            rw [if_pos rfl] at e
            by_cases hl : s = []
            · rw [if_pos hl] at e
              rw [e]
              subst hl
              have hE : (bs []).toList.isEmpty = true := by rw [bs_toList]; rfl
              clear e
              go_enter Tryz.func130, Tryz.ntmps130
              go_wp2_with fail
              go_ret
              exact ⟨rfl, ((Gr.refl w).alloc _)⟩
            · rw [if_neg hl] at e
              rw [e]
              have hE : (bs s).toList.isEmpty = false := by rw [bs_toList]; simp [hl]
              clear e
              go_enter Tryz.func130, Tryz.ntmps130
              go_wp2_with fail
              go_ret
              exact ⟨rfl, ((Gr.refl w).alloc _)⟩
        · rw [if_neg h3] at e
          rw [e]
          clear e
          go_enter Tryz.func130, Tryz.ntmps130
          go_wp2_with fail
          go_ret
          exact ⟨rfl, ((Gr.refl w).alloc _)⟩
end Go.Proofs.YtlmdpamehhcblaaGreatDoor
