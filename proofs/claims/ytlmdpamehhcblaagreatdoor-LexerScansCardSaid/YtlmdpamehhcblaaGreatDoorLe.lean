import Derived.Test.YtlmdpamehhcblaaGreatDoorLd
import Derived.Test.YtlmdpamehhcblaaGreatDoorOw
/- Contracts of the lexer: next, Scan. -/
namespace Go.Proofs.YtlmdpamehhcblaaGreatDoor
open Go.RowKit Go.Shelf
open YtlmdpamehhcblaaGreatDoorD (isDig isLet cls marks spanN wlen nlen nfront werr nerr nextT scanF scanT Tok)

set_option maxHeartbeats 1000000 in
theorem next_c (w : World) (s : List UInt8) (h0 : s ≠ []) (hs : s.length ≤ 4611686018427387904) :
    Calls Tryz.prog 122 #[.string (bs s)] w fun e w' => e = .returned (.tuple #[.int .i64 (nextT s).1, .int .i64 ((nextT s).2.1 : Nat), .int .i64 ((nextT s).2.2 : Nat)]) ∧ Gr w w' := by
  have hsz := bs_size s
  have hp : 0 < s.length := List.length_pos_iff.2 h0
  have hz : 0 < (bs s).size := by omega
  have e : nextT s = (if cls (s.getD 0 0) = 1 then (0, wlen s, werr (s.take (wlen s))) else if cls (s.getD 0 0) = 2 then (1, nlen s, nerr (s.take (nlen s))) else if cls (s.getD 0 0) = 4 then (2, 1, 0) else (0, 0, 4)) := rfl
  by_cases h1 : cls (s.getD 0 0) = 1
  · rw [if_pos h1] at e
    rw [e]
    have HC := Lib.hid (class0_c s hz 1 h1 w)
    have hle := YtlmdpamehhcblaaGreatDoorD.wlen_le s
    have HW := Lib.hid (fun w => word_c w s hs)
    have HE := Lib.hid (fun w => LWord_c w (s.take (wlen s)) (by rw [List.length_take]; omega))
    have hd := bs_take s (wlen s)
    generalize werr (s.take (wlen s)) = r at *
    generalize wlen s = n at *
    clear e h1 h0
    dsimp only
    go_enter Tryz.func122, Tryz.ntmps122
    go_wp2_with fail
    refine HC.out.mono ?_
    rintro e w1 ⟨rfl, rfl⟩
    go_wp2_with fail
    refine (HW.out _).mono ?_
    rintro e w2 ⟨rfl, hg2⟩
    go_wp2_with fail
    refine (HE.out _).mono ?_
    rintro e w3 ⟨rfl, hg3⟩
    go_wp2_with fail
    go_ret3
    exact ⟨rfl, hg2.trans hg3⟩
  · rw [if_neg h1] at e
    by_cases h2 : cls (s.getD 0 0) = 2
    · rw [if_pos h2] at e
      rw [e]
      have HC := Lib.hid (class0_c s hz 2 h2 w)
      have hle := YtlmdpamehhcblaaGreatDoorD.nlen_le s
      have HW := Lib.hid (fun w => number_c w s hs)
      have HE := Lib.hid (fun w => LNumber_c w (s.take (nlen s)) (by rw [List.length_take]; omega))
      have hd := bs_take s (nlen s)
      generalize nerr (s.take (nlen s)) = r at *
      generalize nlen s = n at *
      generalize nfront s = q at *
      clear e h1 h0 h2
      dsimp only
      go_enter Tryz.func122, Tryz.ntmps122
      go_wp2_with fail
      refine HC.out.mono ?_
      rintro e w1 ⟨rfl, rfl⟩
      go_wp2_with fail
      refine (HW.out _).mono ?_
      rintro e w2 ⟨rfl, hg2⟩
      go_wp2_with fail
      refine (HE.out _).mono ?_
      rintro e w3 ⟨rfl, hg3⟩
      go_wp2_with fail
      go_ret3
      exact ⟨rfl, hg2.trans hg3⟩
    · rw [if_neg h2] at e
      by_cases h4 : cls (s.getD 0 0) = 4
      · rw [if_pos h4] at e
        rw [e]
        have HC := Lib.hid (class0_c s hz 4 h4 w)
        clear e h1 h0 h2 h4
        dsimp only
        go_enter Tryz.func122, Tryz.ntmps122
        go_wp2_with fail
        refine HC.out.mono ?_
        rintro e w1 ⟨rfl, rfl⟩
        go_wp2_with fail
        go_ret3
        exact ⟨rfl, Gr.refl _⟩
      · rw [if_neg h4] at e
        rw [e]
        have HC := Lib.hid (class0_c s hz _ rfl w)
        have k1 : ¬ ((cls (s.getD 0 0) : Nat) : Int) = 1 := by omega
        have k2 : ¬ ((cls (s.getD 0 0) : Nat) : Int) = 2 := by omega
        have k4 : ¬ ((cls (s.getD 0 0) : Nat) : Int) = 4 := by omega
        generalize cls (s.getD 0 0) = k at *
        clear e h1 h0 h2 h4
        dsimp only
        go_enter Tryz.func122, Tryz.ntmps122
        go_wp2_with fail
        refine HC.out.mono ?_
        rintro e w1 ⟨rfl, rfl⟩
        go_wp2_with fail
        go_ret3
        exact ⟨rfl, Gr.refl _⟩
/-! ### Scan -/
def tcells (t : Tok) : List Value := [.int .i64 t.kind, .string (bs t.text), .int .i64 t.pos]
/-- Tokens, owned. -/
def TokRow (base : Nat) (w : World) (v : Value) (l : List Tok) : Prop := w.ownsRow base 85 3 v l.length (l.flatMap tcells)
theorem TokRow.gr {base : Nat} {w w' : World} {v : Value} {l : List Tok} (h : TokRow base w v l) (k : Gr w w') : TokRow base w' v l := owns_gr h k
theorem TokRow.nil (base : Nat) (w : World) : TokRow base w (.slice none 0 0) [] := World.ownsRow_nil _ _ _ _
theorem info85 : (Tryz.prog.info? 85).map (fun i => (i.zero, i.size, i.bytes)) = some (some (.agg #[.int .i64 0, .string { data := #[] }, .int .i64 0]), 3, 32) := by kernel_rfl
theorem news3 (w : World) (a b c : Value) (t : TypeId) : ∀ j u, [a, b, c][j]? = some u → (w.alloc (.cells #[a, b, c] t)).cell? ((⟨w.heap.size, 0, none⟩ : Addr).add j) = some u := by
  intro j u hj
  have h : (w.alloc (.cells #[a, b, c] t)).heap[w.heap.size]? = some (.cells #[a, b, c] t) := heap_alloc_new w _
  exact World.news_of_block h j u hj
/-- What Scan returns. -/
def RetScan (r : List Tok × Nat × Nat) (w : World) (e : Ending) (w' : World) : Prop :=
  ∃ v, e = .returned (.tuple #[v, .int .i64 r.2.1, .int .i64 r.2.2]) ∧ TokRow w.heap.size w' v r.1 ∧ Gr w w'
theorem getD_drop (s : List UInt8) (j : Nat) : (s.drop j).getD 0 0 = s.getD j 0 := by
  rw [List.getD_eq_getElem?_getD, List.getD_eq_getElem?_getD, List.getElem?_drop, Nat.add_zero]
theorem classj_c (s : List UInt8) (j : Nat) (hz : j < (bs s).size) (k : Nat) (h : cls ((s.drop j).getD 0 0) = k) (w : World) : Calls Tryz.prog 121 #[.int .u8 (((bs s)[j]'hz).toNat : Int)] w fun e w' => e = .returned (.int .i64 k) ∧ w' = w := by
  have := class_c w ((bs s)[j]'hz)
  have hj2 : j < s.length := by rw [bs_size] at hz; exact hz
  rwa [show cls ((bs s)[j]'hz) = k by rw [← h, getD_drop, List.getD_eq_getElem?_getD, List.getElem?_eq_getElem hj2]; rfl] at this
theorem bs_sub (s : List UInt8) (j n : Nat) : (bs s).extract j (j + n) = bs ((s.drop j).take n) := by
  rw [bs_extract]; congr 2; omega
set_option maxHeartbeats 2000000 in
set_option maxRecDepth 20000 in
theorem Scan_c (w : World) (s : List UInt8) (hs : s.length ≤ 4611686018427387904) : Calls Tryz.prog 51 #[.string (bs s)] w (RetScan (scanT s) w) := by
  have hsz := bs_size s
  by_cases hbig : 4096 < s.length
  · have e : scanT s = ([], 0, 17) := by unfold YtlmdpamehhcblaaGreatDoorD.scanT; rw [if_pos hbig]
    rw [e]
    unfold RetScan
    go_enter Tryz.func51, Tryz.ntmps51
    go_wp2_with fail
    go_ret3
    exact ⟨_, rfl, TokRow.nil _ _, Gr.refl w⟩
  · have e : scanF (s.length + 1) s 0 [] = scanT s := by unfold YtlmdpamehhcblaaGreatDoorD.scanT; rw [if_neg hbig]
    have HE := Lib.hid e
    obtain ⟨i85, hi, hz0, hz1, hz2⟩ := info_parts info85
    clear e
    go_enter Tryz.func51, Tryz.ntmps51
    go_wp2_with fail
    go_loopg [5, 6] s.length (fun N v p wr => ∃ (j : Nat) (L : List Tok) (f : Nat), p = .int .i64 j ∧ N + j = s.length ∧ Aside (TokRow w.heap.size wr v L ∧ Gr w wr ∧ L.length ≤ j ∧ (s.drop j).length < f ∧ scanF f (s.drop j) j L = scanT s))
    case atStart => exact ⟨0, [], s.length + 1, rfl, rfl, TokRow.nil _ _, Gr.refl w, Nat.le_refl _, by simp, HE.out⟩
    case round =>
      clear HE
      obtain ⟨j, L, f, rfl, hj, A⟩ := hrel
      have HJ := Lib.hid hj; clear hj
      obtain ⟨f, rfl⟩ : ∃ f', f = f' + 1 := ⟨f - 1, by have := A.out.2.2.2.1; omega⟩
      by_cases hlt : j < s.length
      · have hz : j < (bs s).size := by omega
        have hne : s.drop j ≠ [] := by
          intro h; have := congrArg List.length h; rw [List.length_drop, List.length_nil] at this; omega
        by_cases hb : cls ((s.drop j).getD 0 0) = 5
        · have HC := Lib.hid (classj_c s j hz 5 hb wr)
          go_wp2_with fail
          refine HC.out.mono ?_
          rintro e w1 ⟨rfl, rfl⟩
          go_wp2_with fail
          go_roundg (gk - 1)
          case measure => have := HJ.out; omega
          case rel =>
            have hA := A.out
            refine ⟨j + 1, L, f, by go_num, by have := HJ.out; omega, hA.1, hA.2.1, by omega, ?_, ?_⟩
            · have := hA.2.2.2.1; rw [List.length_drop] at this ⊢; omega
            · rw [← hA.2.2.2.2, YtlmdpamehhcblaaGreatDoorD.scanF_blank hne hb, List.drop_drop]
        · have HC := Lib.hid (classj_c s j hz _ rfl wr)
          have k5 : ¬ ((cls ((s.drop j).getD 0 0) : Nat) : Int) = 5 := by omega
          have HN := Lib.hid (next_c wr (s.drop j) hne (by rw [List.length_drop]; omega))
          have hd := bs_drop s j
          have nle := YtlmdpamehhcblaaGreatDoorD.nextT_le hne
          rw [List.length_drop] at nle
          by_cases he : (nextT (s.drop j)).2.2 = 0
          · have npos := YtlmdpamehhcblaaGreatDoorD.nextT_pos hne he
            have hsf := YtlmdpamehhcblaaGreatDoorD.scanF_tok (f := f) (p := j) (acc := L) hne hb he
            rw [A.out.2.2.2.2] at hsf
            have HSF := Lib.hid hsf
            rw [he] at HN
            have hsub := bs_sub s j (nextT (s.drop j)).2.1
            clear hsf he
            generalize (nextT (s.drop j)).1 = k at *
            generalize (nextT (s.drop j)).2.1 = n at *
            generalize cls ((s.drop j).getD 0 0) = kk at *
            have hown := A.out.1
            have hLj := A.out.2.2.1
            go_wp2_with fail
            refine HC.out.mono ?_
            rintro e w1 ⟨rfl, rfl⟩
            go_wp2_with fail
            refine HN.out.mono ?_
            rintro e w2 ⟨rfl, hg2⟩
            have G2 := Lib.hid (A.out.2.1.trans hg2)
            have hown2 : w2.ownsRow w.heap.size 85 3 _ L.length (L.flatMap tcells) := hown.gr hg2
            clear hg2
            go_wp2_with (at_builtin; refine wpList_append_lies _ rfl _ _ 67 rfl w.heap.size 85 i85 _ 3 32 Tryz.underlying67 hi hz0 hz1 hz2 rfl (by decide) _ _ _ rfl (hown2.alloc _) ⟨w2.heap.size, 0, none⟩ 1 1 [.int .i64 k, .string (bs ((s.drop j).take n)), .int .i64 j] rfl rfl (news3 w2 _ _ _ _) (by intro u hu; simp at hu; rcases hu with rfl | rfl | rfl <;> rfl) (by decide) (by unfold maxLen; omega) (by omega) (by have := G2.out.size; simp; omega) _ rfl ?_)
            intro g cap w3 hown3 hgrow hat hlt3
            have e4 : L.flatMap tcells ++ [.int .i64 k, .string (bs ((s.drop j).take n)), .int .i64 j] = (L ++ [(⟨k, (s.drop j).take n, j⟩ : Tok)]).flatMap tcells := by rw [List.flatMap_append]; rfl
            have e5 : (L ++ [(⟨k, (s.drop j).take n, j⟩ : Tok)]).length = L.length + 1 := by rw [List.length_append]; rfl
            rw [e4] at hown3
            have A2 : Aside (TokRow w.heap.size w3 (.slice (some ⟨g, 0, none⟩) (L.length + 1) cap) (L ++ [⟨k, (s.drop j).take n, j⟩]) ∧ Gr w w3) := ⟨by unfold TokRow; rw [e5]; exact hown3, (G2.out.alloc _).grown hgrow (owns_row_ge hown)⟩
            have B2 : Aside ((s.drop j).length < f + 1) := A.out.2.2.2.1
            clear hown3 hgrow hat hlt3 A hown hown2 e4 G2
            go_wp2_with fail
            go_roundg (gk - n)
            case measure => have := HJ.out; omega
            case rel =>
              refine ⟨j + n, L ++ [⟨k, (s.drop j).take n, j⟩], f, by go_num, by have := HJ.out; omega, by rw [e5] at *; exact A2.out.1, A2.out.2, by omega, ?_, ?_⟩
              · have := B2.out; rw [List.length_drop] at this ⊢; omega
              · rw [HSF.out, List.drop_drop]
          · have hsf := YtlmdpamehhcblaaGreatDoorD.scanF_err (f := f) (p := j) (acc := L) hne hb he
            rw [A.out.2.2.2.2] at hsf
            rw [hsf]
            have kE : ¬ (((nextT (s.drop j)).2.2 : Nat) : Int) = 0 := by omega
            clear hsf he
            generalize (nextT (s.drop j)).1 = k at *
            generalize (nextT (s.drop j)).2.1 = n at *
            generalize (nextT (s.drop j)).2.2 = q at *
            generalize cls ((s.drop j).getD 0 0) = kk at *
            go_wp2_with fail
            refine HC.out.mono ?_
            rintro e w1 ⟨rfl, rfl⟩
            go_wp2_with fail
            refine HN.out.mono ?_
            rintro e w2 ⟨rfl, hg2⟩
            go_wp2_with fail
            go_ret3
            exact ⟨_, rfl, TokRow.nil _ _, A.out.2.1.trans hg2⟩
      · have hjl : j = s.length := by have := HJ.out; omega
        subst hjl
        have hend := A.out.2.2.2.2
        rw [List.drop_of_length_le (Nat.le_refl _), YtlmdpamehhcblaaGreatDoorD.scanF_end] at hend
        have HD := Lib.hid hend
        have hown := A.out.1
        have hLj := A.out.2.2.1
        clear hend
        go_wp2_with (at_builtin; refine wpList_append_lies _ rfl _ _ 67 rfl w.heap.size 85 i85 _ 3 32 Tryz.underlying67 hi hz0 hz1 hz2 rfl (by decide) _ _ _ rfl (hown.alloc _) ⟨wr.heap.size, 0, none⟩ 1 1 [.int .i64 3, .string (bs []), .int .i64 s.length] rfl rfl (news3 wr _ _ _ _) (by intro u hu; simp at hu; rcases hu with rfl | rfl | rfl <;> rfl) (by decide) (by unfold maxLen; omega) (by omega) (by have := A.out.2.1.size; simp; omega) _ rfl ?_)
        intro g cap w3 hown3 hgrow hat hlt3
        have e4 : L.flatMap tcells ++ [.int .i64 3, .string (bs []), .int .i64 s.length] = (L ++ [(⟨3, [], s.length⟩ : Tok)]).flatMap tcells := by rw [List.flatMap_append]; rfl
        have e5 : (L ++ [(⟨3, [], s.length⟩ : Tok)]).length = L.length + 1 := by rw [List.length_append]; rfl
        rw [e4] at hown3
        have A2 : Aside (TokRow w.heap.size w3 (.slice (some ⟨g, 0, none⟩) (L.length + 1) cap) (L ++ [⟨3, [], s.length⟩]) ∧ Gr w w3) := ⟨by unfold TokRow; rw [e5]; exact hown3, (A.out.2.1.alloc _).grown hgrow (owns_row_ge hown)⟩
        clear hown3 hgrow hat hlt3 A hown e4
        go_wp2_with fail
        go_ret3
        rw [← HD.out]
        exact ⟨_, rfl, A2.out.1, A2.out.2⟩
end Go.Proofs.YtlmdpamehhcblaaGreatDoor
