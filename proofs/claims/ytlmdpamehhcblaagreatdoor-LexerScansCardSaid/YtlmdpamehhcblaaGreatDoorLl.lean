import Derived.Test.YtlmdpamehhcblaaGreatDoorLm
/- Contracts of the lexer: Parts. -/
namespace Go.Proofs.YtlmdpamehhcblaaGreatDoor
open Go.RowKit Go.Shelf
open YtlmdpamehhcblaaGreatDoorD (isT Tok tok0 partF partT cutEnd parter addL cls)

/-- What Parts returns. -/
def RetParts (r : List (List Tok) × Nat) (w : World) (e : Ending) (w' : World) : Prop := ∃ v n c b, e = .returned (.tuple #[v, .int .i64 (r.2 : Nat)]) ∧ v = .slice b n c ∧ n = r.1.length ∧ PW w' w.heap.size v r.1 ∧ Gr w w'
theorem PW.nil (w : World) (base : Nat) : PW w base (.slice none 0 0) [] := ⟨[], rfl, World.ownsRow_nil _ _ _ _, fun i u h => by simp at h, fun i j u u' _ h => by simp at h⟩
theorem RetParts.bad {r : List (List Tok) × Nat} {w w' : World} {n : Nat} (h : r = ([], n)) (hg : Gr w w') : RetParts r w (.returned (.tuple #[.slice none 0 0, .int .i64 (n : Nat)])) w' := by
  subst h
  exact ⟨_, _, _, _, rfl, rfl, rfl, PW.nil _ _, hg⟩
theorem brackets (x : UInt8) : Lib.contains [40, 41, 91, 93] [x] = ([x] == [40] || [x] == [41] || [x] == [91] || [x] == [93]) := by
  unfold Lib.contains
  rw [Bool.eq_iff_iff, decide_eq_true_iff]
  have h := YtlmdpamehhcblaaGreatDoorD.index_mem x [40, 41, 91, 93]
  constructor
  · intro h0
    by_cases hm : x ∈ [40, 41, 91, 93]
    · simp only [List.mem_cons, List.not_mem_nil, or_false] at hm
      rcases hm with rfl | rfl | rfl | rfl <;> rfl
    · rw [h.2 hm] at h0; exact absurd h0 (by decide)
  · intro h0
    refine (h.1 ?_).1
    simp only [Bool.or_eq_true, beq_iff_eq, List.cons.injEq, and_true] at h0
    simp only [List.mem_cons, List.not_mem_nil, or_false]
    rcases h0 with ((h0 | h0) | h0) | h0
    · exact .inl h0
    · exact .inr (.inl h0)
    · exact .inr (.inr (.inl h0))
    · exact .inr (.inr (.inr h0))
theorem partF_end (g : List UInt8) (op : List (List UInt8)) (out : List (List Tok)) : partF g [] op out = if op = [] then (out, 0) else ([], 3) := by unfold partF; rfl
theorem partF_cons (g : List UInt8) (t : Tok) (r : List Tok) (op : List (List UInt8)) (out : List (List Tok)) : partF g (t :: r) op out =
    (if op = [] ∧ isT t g = true then partF g r op (out ++ [[]])
    else if isT t [40] = true then partF g r (op ++ [[41]]) (addL out t)
    else if isT t [91] = true then partF g r (op ++ [[93]]) (addL out t)
    else if isT t [41] = true ∨ isT t [93] = true then (if op = [] ∨ op.getLast? ≠ some t.text then ([], 3) else partF g r op.dropLast (addL out t))
    else partF g r op (addL out t)) := by
  conv => lhs; unfold partF
theorem drop_tok {l : List Tok} {j : Nat} (h : j < l.length) : l.drop j = l.getD j tok0 :: l.drop (j + 1) := by
  rw [List.drop_eq_getElem_cons h, List.getD_eq_getElem?_getD, List.getElem?_eq_getElem h]; rfl
theorem TokAt.take {w : World} {g off : Nat} {l : List Tok} (h : TokAt w g off l) (n : Nat) : TokAt w g off (l.take n) := by
  intro j hj
  rw [List.length_take] at hj
  have e : (l.take n).getD j tok0 = l.getD j tok0 := by
    rw [List.getD_eq_getElem?_getD, List.getElem?_take, if_pos (by omega), ← List.getD_eq_getElem?_getD]
  rw [e]
  exact h j (by omega)
theorem PM.start (w : World) : PM w (w.alloc (.cells #[.slice none 0 0] 67)) w.heap.size 1 [] [] [] none 0 where
  gr := (Gr.refl w).alloc _
  pw := ⟨[.slice none 0 0], rfl, World.ownsRow_lit w #[.slice none 0 0] 1 (Nat.le_refl _) (by decide) rfl, fun i u h => by
    match i with
    | 0 => simp at h; subst h; exact TokRow.nil _ _
    | i + 1 => simp at h, fun i j u u' hij hi hj => by
    match j with
    | 0 => omega
    | j + 1 => simp at hj⟩
  tx := TxtRow.nil _ _
theorem news3' (W : World) (k s p : Value) (t : TypeId) (bt : Nat) (h : W.heap[bt]? = some (.cells #[k, s, p] t)) : ∀ j u, [k, s, p][j]? = some u → W.cell? ((⟨bt, 0, none⟩ : Addr).add j) = some u := fun j u hj => World.news_of_block h j u hj
theorem lt_of_get {w : World} {k : Nat} {o : Obj} (h : w.heap[k]? = some o) : k < w.heap.size := (Array.getElem?_eq_some_iff.1 h).1
theorem cell3 {w : World} {k : Nat} {a b c : Value} {t : TypeId} (h : w.heap[k]? = some (.cells #[a, b, c] t)) : w.cell? ⟨k, 0, none⟩ = some a ∧ w.cell? ⟨k, 1, none⟩ = some b ∧ w.cell? ⟨k, 2, none⟩ = some c := by
  refine ⟨?_, ?_, ?_⟩ <;> (unfold World.cell?; rw [h]; rfl)
theorem tcells_one (t : Tok) : ∀ u ∈ tcells t, u.oneCell' = true := by
  intro u hu
  unfold tcells at hu
  simp only [List.mem_cons, List.not_mem_nil, or_false] at hu
  rcases hu with rfl | rfl | rfl <;> rfl
theorem tx_form {base : Nat} {w : World} {bp : Option Addr} {cp : Nat} {op : List (List UInt8)} {x : List UInt8} (h : TxtRow base w (.slice bp (op ++ [x]).length cp) (op ++ [x])) : ∃ g, bp = some ⟨g, 0, none⟩ ∧ op.length + 1 ≤ cp := by
  rcases h.2 with ⟨_, h0⟩ | ⟨g, c, cur, e, _, _, hc, _⟩
  · simp at h0
  · simp only [Value.slice.injEq] at e
    rw [len_snoc] at hc
    exact ⟨g, e.1, by omega⟩
theorem tx_snoc {base : Nat} {w : World} {bp : Option Addr} {cp : Nat} {op : List (List UInt8)} {x : List UInt8} (h : TxtRow base w (.slice bp (op ++ [x]).length cp) (op ++ [x])) : w.ownsRow base 9 1 (.slice bp (op.length + 1) cp) (op.length + 1) ((op ++ [x]).map fun s => Value.string (bs s)) := by
  unfold TxtRow at h
  rwa [len_snoc] at h
theorem tx_last {base : Nat} {w : World} {g cp : Nat} {op : List (List UInt8)} {x : List UInt8} (h : TxtRow base w (.slice (some ⟨g, 0, none⟩) (op ++ [x]).length cp) (op ++ [x])) : w.cell? ⟨g, op.length, none⟩ = some (.string (bs x)) := by
  have := (tx_snoc h).cellAt op.length (by omega)
  rw [this, List.map_append, List.getElem?_append_right (by simp)]
  simp
theorem tx_form' {base : Nat} {w : World} {bp : Option Addr} {cp : Nat} {op op0 : List (List UInt8)} {x : List UInt8} (e : op = op0 ++ [x]) (h : TxtRow base w (.slice bp op.length cp) op) : ∃ g, bp = some ⟨g, 0, none⟩ ∧ op.length ≤ cp := by
  subst e
  obtain ⟨g, h1, h2⟩ := tx_form h
  exact ⟨g, h1, by rw [len_snoc]; exact h2⟩
theorem tx_last' {base : Nat} {w : World} {bp : Option Addr} {g cp : Nat} {op op0 : List (List UInt8)} {x : List UInt8} (e : op = op0 ++ [x]) (hb : bp = some ⟨g, 0, none⟩) (h : TxtRow base w (.slice bp op.length cp) op) : w.cell? ⟨g, op.length - 1, none⟩ = some (.string (bs x)) := by
  subst e hb
  have := tx_last h
  rw [len_snoc, Nat.add_sub_cancel]; exact this
theorem far_kind {base k n : Nat} {w : World} {v v' : Value} {xs : List Value} {cs : Array Value} (h : w.ownsRow base 9 1 v n xs) (hk : w.heap[k]? = some (.cells cs 85)) (hv : v = v' := by rfl) : some k ≠ v'.ownBlock := by
  subst hv
  rcases h.2 with ⟨rfl, _⟩ | ⟨g, c, cur, rfl, _, hg, _⟩
  · simp [Value.ownBlock]
  · simp only [Value.ownBlock, ne_eq, Option.some.injEq]
    rintro rfl
    rw [hk] at hg
    simp at hg
set_option maxHeartbeats 8000000 in
set_option maxRecDepth 20000 in
theorem Parts_loop0 (w : World) (he : Env w) (b : Option Addr) (g off c : Nat) (l : List Tok) (sg : List UInt8) (hb : l ≠ [] → b = some ⟨g, off, none⟩) (hl : TokAt w g off l) (hn : l.length ≤ 4097) (hc : l.length ≤ c) (hsg : parter sg = true) :
    Calls Tryz.prog 66 #[.slice b l.length c, .string (bs sg)] w (RetParts (partF sg (cutEnd l) [] [[]]) w) := by
  unfold parter at hsg
  simp only [Bool.and_eq_true, beq_iff_eq, Bool.not_eq_true'] at hsg
  obtain ⟨⟨s1, s2⟩, s3⟩ := hsg
  have hsz := bs_size sg
  have hz : 0 < (bs sg).size := by omega
  have HC := Lib.hid (class0_c sg hz 4 s2)
  have hcon : Lib.contains [40, 41, 91, 93] sg = false := by
    obtain ⟨x, r, rfl⟩ := List.exists_cons_of_ne_nil (show sg ≠ [] by intro e; rw [e] at s1; simp at s1)
    have hr : r = [] := List.eq_nil_of_length_eq_zero (by simpa using s1)
    subst hr
    rw [brackets]; exact s3
  have HK := Lib.hid (fun w he => Contains_c w he [40, 41, 91, 93] sg (by decide))
  rw [hcon] at HK
  have HE := Lib.hid he
  obtain ⟨i67, hi, hi0, hi1, hi2⟩ := info_parts info67
  obtain ⟨i9, hs, hs0, hs1, hs2⟩ := info_parts info9
  obtain ⟨i85, hq, hq0, hq1, hq2⟩ := info_parts info85
  have addL_snoc' := YtlmdpamehhcblaaGreatDoorD.addL_snoc
  have S0 := Lib.hid (PM.start w)
  have hHL : TokAt w g off (cutEnd l) ∧ (cutEnd l).length ≤ l.length := by
    unfold cutEnd
    split
    · exact ⟨hl.take _, by rw [List.length_take]; omega⟩
    · exact ⟨hl, Nat.le_refl _⟩
  have hB0 : cutEnd l ≠ [] → b = some ⟨g, off, none⟩ := fun h => hb (fun e => h (by rw [e]; rfl))
  have hE1 : 0 < l.length ∧ (l.getD (l.length - 1) tok0).kind = 3 → (cutEnd l).length = l.length - 1 := by
    intro h; unfold cutEnd; rw [if_pos h, List.length_take]; omega
  have hE2 : ¬ (0 < l.length ∧ (l.getD (l.length - 1) tok0).kind = 3) → (cutEnd l).length = l.length := by
    intro h; unfold cutEnd; rw [if_neg h]
  have hk0 : 0 < l.length → w.cell? ⟨g, off + (l.length - 1) * 3, none⟩ = some (.int .i64 (l.getD (l.length - 1) tok0).kind) := fun h => (hl (l.length - 1) (by omega)).1
  have hbl : 0 < l.length → b = some ⟨g, off, none⟩ := fun h => hb (by intro e; rw [e] at h; simp at h)
  generalize (l.getD (l.length - 1) tok0).kind = kk at *
  generalize l.length = N at *
  obtain ⟨R, hR⟩ : ∃ R, partF sg (cutEnd l) [] [[]] = R := ⟨_, rfl⟩
  rw [hR]
  have HR0 := Lib.hid hR
  generalize cutEnd l = l' at *
  have HL := Lib.hid hHL.1
  have HT2 := hHL.2
  have HBB := Lib.hid hB0
  clear hR s2 s3 hcon he hHL hB0 hb hl
  go_enter Tryz.func66, Tryz.ntmps66
  go_wp2_with fail
  refine (HC.out _).mono ?_
  rintro e w1 ⟨rfl, hw1⟩
  replace hw1 := hw1.symm
  subst hw1
  go_wp2_with fail
  refine (HK.out _ HE.out).mono ?_
  rintro e w1 ⟨rfl, hw1⟩
  replace hw1 := hw1.symm
  subst hw1
  obtain ⟨B, hB⟩ : ∃ B : Bool, B = decide (0 < N ∧ kk = 3) := ⟨_, rfl⟩
  have HB := Lib.hid hB
  clear hB
  go_upto_region 6 with fail
  go_cut [40] from 30 (fun s40 wx => wx = w ∧ s40 = .bool B)
  case first =>
    rcases Nat.eq_zero_or_pos N with h0 | h0
    · subst h0
      go_wp2_with fail
      go_meet
      exact ⟨rfl, by rw [HB.out, decide_eq_false (by omega)]⟩
    · have k0 := hk0 h0
      obtain rfl := hbl h0
      have hwN : IntKind.i64.wrap ((N : Int) - 1) = (N : Int) - 1 := IntWalk.i64_in _ (by omega)
      have hN1 : (0 : Int) ≤ (N : Int) - 1 := by omega
      have hN2 : (N : Int) - 1 < (N : Int) := by omega
      have hN3 : ((N : Int) - 1).toNat = N - 1 := by omega
      have hN4 : (0 : Int) < (N : Int) := by omega
      go_wp2_with fail
      go_meet
      exact ⟨rfl, by rw [HB.out]; congr 1; rw [Bool.eq_iff_iff]; simp; omega⟩
  case rest =>
  obtain ⟨rfl, rfl⟩ := hcut
  go_upto_if 40 with fail
  go_cut [0] from 41 (fun s0 wx => wx = wc ∧ s0 = .slice b l'.length c)
  case first =>
    cases B
    case true =>
      have hB : 0 < N ∧ kk = 3 := by have := HB.out.symm; simpa using this
      have eL := hE1 hB
      obtain rfl := hbl hB.1
      have hN0 := hB.1
      have hwN : IntKind.i64.wrap ((N : Int) - 1) = (N : Int) - 1 := IntWalk.i64_in _ (by omega)
      have hN1 : (0 : Int) ≤ (N : Int) - 1 := by omega
      have hN2 : (N : Int) - 1 ≤ (c : Int) := by omega
      have hN3 : ((N : Int) - 1).toNat = N - 1 := by omega
      have hN4 : N - 1 ≤ c := by omega
      have EL := Lib.hid eL
      clear eL hB
      go_wp2_with fail
      go_meet
      exact ⟨rfl, by rw [EL.out]⟩
    case false =>
      have hB : ¬ (0 < N ∧ kk = 3) := of_decide_eq_false HB.out.symm
      have eL := Lib.hid (hE2 hB)
      clear hB
      go_wp2_with fail
      go_meet
      exact ⟨rfl, by rw [eL.out]⟩
  case rest =>
  obtain ⟨rfl, rfl⟩ := hcut
  clear hE1 hE2 hk0 hbl HB
  obtain ⟨W, hW⟩ : ∃ W, W = wc := ⟨_, rfl⟩
  subst hW
  go_wp2_with fail
  generalize hLn : l'.length = L at *
  have HLN := Lib.hid hLn
  have hL9 : L ≤ 4097 := by omega
  clear hLn HT2
  go_loopg [7, 8, 48] L (fun N vo vp vi wr => ∃ (j G cap : Nat) (front : List (List Tok)) (last : List Tok) (op : List (List UInt8)) (bp : Option Addr) (cp : Nat), vi = .int .i64 j ∧ N + j = L ∧ vo = .slice (some ⟨G, 0, none⟩) (front.length + 1) cap ∧ vp = .slice bp op.length cp ∧ Aside (PM W wr G cap front last op bp cp ∧ partF sg (l'.drop j) op (front ++ [last]) = R ∧ front.length ≤ j ∧ last.length ≤ j ∧ op.length ≤ j))
  case atStart => exact ⟨0, W.heap.size, 1, [], [], [], none, 0, rfl, rfl, rfl, rfl, S0.out, HR0.out, Nat.le_refl _, Nat.le_refl _, Nat.le_refl _⟩
  case round =>
    obtain ⟨j, G, cap, front, last, op, bp, cp, rfl, hj, rfl, rfl, A⟩ := hrel
    have HJ := Lib.hid hj
    clear hj S0 HR0
    by_cases hlt : j < L
    · have hlt' : j < l'.length := by have := HLN.out; omega
      have hft := A.out.2.1
      rw [drop_tok hlt', partF_cons] at hft
      have HF := Lib.hid hft
      obtain rfl := HBB.out (by intro e; rw [e] at hlt'; simp at hlt')
      have T0 := (HL.out.gr A.out.1.gr) j hlt'
      have HI := Lib.hid (fun w g => is_c w (l'.getD j tok0) g)
      unfold tval at HI
      clear hft hlt'
      generalize l'.getD j tok0 = t at *
      have HLT := Lib.hid hlt
      have b4 := box3b wr (.int .i64 t.kind) (.string (bs t.text)) (.int .i64 t.pos) 85
      have hj9 : j ≤ 4097 := by omega
      obtain ⟨t1, t2, t3⟩ := T0
      have P := A.out.1
      have N := A.out.2.2
      clear A
      have P1 := Lib.hid (P.mv ((Gr.refl wr).alloc (.cells #[.int .i64 t.kind, .string (bs t.text), .int .i64 t.pos] 85)))
      have bt : ∃ bt, bt = wr.heap.size := ⟨_, rfl⟩
      obtain ⟨bt, hbt⟩ := bt
      obtain ⟨q, hq'⟩ : ∃ q : Bool, q = (op.isEmpty && isT t sg) := ⟨_, rfl⟩
      have HQ := Lib.hid hq'
      clear hq' P
      have B1 := Lib.hid b4
      go_upto_region 13 with fail
      rw [← hbt] at *
      clear b4 t1 t2 t3
      generalize wr.alloc (.cells #[.int .i64 t.kind, .string (bs t.text), .int .i64 t.pos] 85) = w1 at *
      have cc := cell3 B1.out
      obtain ⟨cc0, cc1, cc2⟩ := cc
      go_cut [59] (fun s59 wx => s59 = .bool q ∧ Aside (PM W wx G cap front last op bp cp ∧ wx.heap[bt]? = some (.cells #[.int .i64 t.kind, .string (bs t.text), .int .i64 t.pos] 85)))
      case first =>
        rcases Nat.eq_zero_or_pos op.length with ho | ho
        · have hop0 : ((op.length : Nat) : Int) = 0 := by omega
          have HIs := Lib.hid (fun w => HI.out w sg)
          have hqq : q = isT t sg := by rw [HQ.out, List.eq_nil_of_length_eq_zero ho]; rfl
          rw [← hqq] at HIs
          clear hqq ho
          go_wp2_with fail
          refine (HIs.out _).mono ?_
          rintro e w2 ⟨rfl, hg2⟩
          go_wp2_with fail
          go_meet
          exact ⟨rfl, P1.out.mv hg2, (hg2.b.block bt (lt_of_get B1.out)).trans B1.out⟩
        · have hop0 : ¬ ((op.length : Nat) : Int) = 0 := by omega
          have hop0b : (((op.length : Nat) : Int) == 0) = false := beq_eq_false_iff_ne.2 hop0
          have hqq : q = false := by
            rw [HQ.out]
            cases op with
            | nil => simp at ho
            | cons a r => rfl
          have HQQ := Lib.hid hqq
          clear hqq ho
          go_wp2_with fail
          go_meet
          exact ⟨by rw [HQQ.out], P1.out, B1.out⟩
      case rest =>
      obtain ⟨rfl, A2⟩ := hcut
      clear P1 B1 cc0 cc1 cc2
      have P1 := Lib.hid A2.out.1
      have B1 := Lib.hid A2.out.2
      clear A2
      obtain ⟨w1', hW1⟩ : ∃ w1', w1' = wc := ⟨_, rfl⟩
      subst hW1
      have cc := cell3 B1.out
      obtain ⟨cc0, cc1, cc2⟩ := cc
      cases q with
      | true =>
        have hqq := HQ.out.symm
        rw [Bool.and_eq_true, List.isEmpty_iff] at hqq
        rw [if_pos hqq] at HF
        clear hqq
        have P2 := Lib.hid (P1.out.mv ((Gr.refl w1').alloc (.cells #[.slice none 0 0] 67)))
        obtain ⟨vals, p1, p2, p3, p4⟩ := P2.out.out
        have p2' := Lib.hid p2; have p3' := Lib.hid p3; have p4' := Lib.hid p4
        have N1 := N.1
        have hwb := P1.out.gr.size
        clear p2 p3 p4
        go_wp2_with (at_builtin; refine wpList_append_lies _ rfl _ _ 87 rfl W.heap.size 67 i67 _ 1 24 Tryz.underlying87 hi hi0 hi1 hi2 rfl (by decide) _ _ _ rfl p2'.out ⟨w1'.heap.size, 0, none⟩ 1 1 [.slice none 0 0] rfl rfl (news1 w1' _ _) (by intro u hu; simp at hu; subst hu; rfl) (by decide) (by unfold maxLen; omega) (by omega) (by simp; omega) _ rfl ?_)
        intro g2 cap2 w2 hown2 hgrow2 hat2 hlt2
        have PN := Lib.hid (P2.out.new p1 p2'.out p3'.out p4'.out hown2 hgrow2)
        clear hown2 hgrow2 hat2 hlt2 p2' p3' p4'
        go_wp2_with fail
        go_roundg (gk - 1)
        case measure => have := HJ.out; have := HLT.out; omega
        case rel => exact ⟨j + 1, g2, cap2, front ++ [last], [], op, bp, cp, by go_num, by have := HJ.out; have := HLT.out; omega, by rw [len_snoc], rfl, PN.out, HF.out, by rw [len_snoc]; omega, by simp, by have := N.2.2; omega⟩
      | false =>
        have hqq : ¬ (op = [] ∧ isT t sg = true) := by
          intro h
          have := HQ.out
          rw [h.1, h.2] at this; cases this
        rw [if_neg hqq, addL_snoc'] at HF
        clear hqq
        have HI40 := Lib.hid (fun w => HI.out w [40])
        have HI91 := Lib.hid (fun w => HI.out w [91])
        have HI41 := Lib.hid (fun w => HI.out w [41])
        have HI93 := Lib.hid (fun w => HI.out w [93])
        clear HI HQ
        go_upto_block 2 with fail
        go_cut [8] (fun s8 wx => ∃ (op' : List (List UInt8)) (bp' : Option Addr) (cp' : Nat), s8 = .slice bp' op'.length cp' ∧ Aside (PM W wx G cap front last op' bp' cp' ∧ wx.heap[bt]? = some (.cells #[.int .i64 t.kind, .string (bs t.text), .int .i64 t.pos] 85) ∧ partF sg (l'.drop (j + 1)) op' (front ++ [last ++ [t]]) = R ∧ op'.length ≤ j + 1))
        case first =>
          go_wp2_with fail
          cases h40 : isT t [40]
          case true =>
            rw [if_pos h40] at HF
            have HI40r := Lib.hid (fun w => HI40.out w)
            rw [h40] at HI40r
            refine (HI40r.out _).mono ?_
            rintro e w2 ⟨rfl, hg2⟩
            have P2 := Lib.hid ((P1.out.mv hg2).mv ((Gr.refl w2).alloc (.cells #[.string (bs [41])] 9)))
            have B2 := Lib.hid ((((Gr.refl w2).alloc (.cells #[.string (bs [41])] 9)).b.block bt (Nat.lt_of_lt_of_le (lt_of_get B1.out) hg2.size)).trans ((hg2.b.block bt (lt_of_get B1.out)).trans B1.out))
            have hwb := P2.out.gr.size
            have N3 := N.2.2
            have X2 := Lib.hid P2.out.tx
            clear hg2 cc0 cc1 cc2
            go_wp2_with (at_builtin; refine wpList_append_lies _ rfl _ _ 42 rfl W.heap.size 9 i9 _ 1 16 Tryz.underlying42 hs hs0 hs1 hs2 rfl (by decide) _ _ _ rfl X2.out ⟨w2.heap.size, 0, none⟩ 1 1 [.string (bs [41])] rfl rfl (news1 w2 _ _) (by intro u hu; simp at hu; subst hu; rfl) (by decide) (by unfold maxLen; omega) (by omega) (by simp at hwb ⊢; omega) _ rfl ?_)
            intro g2 cap2 w9 hown3 hgrow3 hat3 hlt3
            have P3 := Lib.hid (P2.out.push [41] hown3 hgrow3)
            have B3 := Lib.hid ((hgrow3.block bt (lt_of_get B2.out) (far_kind X2.out B2.out)).trans B2.out)
            clear hown3 hgrow3 hat3 hlt3 X2 P2 B2 hwb
            go_wp2_with fail
            go_meet
            exact ⟨op ++ [[41]], some ⟨g2, 0, none⟩, cap2, by rw [len_snoc], P3.out, B3.out, HF.out, by rw [len_snoc]; omega⟩

          case false =>
            rw [if_neg (by rw [h40]; simp)] at HF
            have HI40r := Lib.hid (fun w => HI40.out w)
            rw [h40] at HI40r
            refine (HI40r.out _).mono ?_
            rintro e w2 ⟨rfl, hg2⟩
            have Pw2 := Lib.hid (P1.out.mv hg2)
            have Bw2 := Lib.hid ((hg2.b.block bt (lt_of_get B1.out)).trans B1.out)
            clear hg2 cc0 cc1 cc2
            have cc := cell3 Bw2.out
            obtain ⟨cc0, cc1, cc2⟩ := cc
            go_wp2_with fail
            cases h91 : isT t [91]
            case true =>
              rw [if_pos h91] at HF
              have HI91r := Lib.hid (fun w => HI91.out w)
              rw [h91] at HI91r
              refine (HI91r.out _).mono ?_
              rintro e w3 ⟨rfl, hg2⟩
              have P2 := Lib.hid ((Pw2.out.mv hg2).mv ((Gr.refl w3).alloc (.cells #[.string (bs [93])] 9)))
              have B2 := Lib.hid ((((Gr.refl w3).alloc (.cells #[.string (bs [93])] 9)).b.block bt (Nat.lt_of_lt_of_le (lt_of_get Bw2.out) hg2.size)).trans ((hg2.b.block bt (lt_of_get Bw2.out)).trans Bw2.out))
              have hwb := P2.out.gr.size
              have N3 := N.2.2
              have X2 := Lib.hid P2.out.tx
              clear hg2 cc0 cc1 cc2
              go_wp2_with (at_builtin; refine wpList_append_lies _ rfl _ _ 42 rfl W.heap.size 9 i9 _ 1 16 Tryz.underlying42 hs hs0 hs1 hs2 rfl (by decide) _ _ _ rfl X2.out ⟨w3.heap.size, 0, none⟩ 1 1 [.string (bs [93])] rfl rfl (news1 w3 _ _) (by intro u hu; simp at hu; subst hu; rfl) (by decide) (by unfold maxLen; omega) (by omega) (by simp at hwb ⊢; omega) _ rfl ?_)
              intro g2 cap2 w9 hown3 hgrow3 hat3 hlt3
              have P3 := Lib.hid (P2.out.push [93] hown3 hgrow3)
              have B3 := Lib.hid ((hgrow3.block bt (lt_of_get B2.out) (far_kind X2.out B2.out)).trans B2.out)
              clear hown3 hgrow3 hat3 hlt3 X2 P2 B2 hwb
              go_wp2_with fail
              go_meet
              exact ⟨op ++ [[93]], some ⟨g2, 0, none⟩, cap2, by rw [len_snoc], P3.out, B3.out, HF.out, by rw [len_snoc]; omega⟩

            case false =>
              rw [if_neg (by rw [h91]; simp)] at HF
              have HI91r := Lib.hid (fun w => HI91.out w)
              rw [h91] at HI91r
              refine (HI91r.out _).mono ?_
              rintro e w3 ⟨rfl, hg2⟩
              have Pw3 := Lib.hid (Pw2.out.mv hg2)
              have Bw3 := Lib.hid ((hg2.b.block bt (lt_of_get Bw2.out)).trans Bw2.out)
              clear hg2 cc0 cc1 cc2
              have cc := cell3 Bw3.out
              obtain ⟨cc0, cc1, cc2⟩ := cc
              go_wp2_with fail
              cases h41 : isT t [41]
              case true =>
                rw [if_pos (.inl h41)] at HF
                have HI41r := Lib.hid (fun w => HI41.out w)
                rw [h41] at HI41r
                refine (HI41r.out _).mono ?_
                rintro e w4 ⟨rfl, hg2⟩
                have Pw4 := Lib.hid (Pw3.out.mv hg2)
                have Bw4 := Lib.hid ((hg2.b.block bt (lt_of_get Bw3.out)).trans Bw3.out)
                clear hg2 cc0 cc1 cc2
                have cc := cell3 Bw4.out
                obtain ⟨cc0, cc1, cc2⟩ := cc
                have N3 := N.2.2
                rcases Nat.eq_zero_or_pos op.length with ho | ho
                · have hop0 : ((op.length : Nat) : Int) = 0 := by omega
                  rw [if_pos (.inl (List.eq_nil_of_length_eq_zero ho))] at HF
                  clear ho
                  go_wp2_with fail
                  go_quiet (fail)
                  go_wp2_with fail
                  go_ret2
                  exact RetParts.bad (n := 3) HF.out.symm (Pw4.out.gr.drewN _)
                · obtain ⟨op0, x, hopx⟩ : ∃ op0 x, op = op0 ++ [x] := by
                    rcases List.eq_nil_or_concat op with e | ⟨r, x, e⟩
                    · rw [e] at ho; simp at ho
                    · exact ⟨r, x, by rw [e, List.concat_eq_append]⟩
                  have hTX := Pw4.out.tx
                  have hlen : op.length = op0.length + 1 := by rw [hopx, len_snoc]
                  obtain ⟨gb, hgb, hcap⟩ := tx_form' hopx hTX
                  have hcl := tx_last' hopx hgb hTX
                  subst hgb
                  have hop0 : ¬ ((op.length : Nat) : Int) = 0 := by omega
                  have hop0b : (((op.length : Nat) : Int) == 0) = false := beq_eq_false_iff_ne.2 hop0
                  have hwo : IntKind.i64.wrap ((op.length : Int) - 1) = (op.length : Int) - 1 := IntWalk.i64_in _ (by omega)
                  have hwo1 : (0 : Int) ≤ (op.length : Int) - 1 := by omega
                  have hwo2 : (op.length : Int) - 1 < (op.length : Int) := by omega
                  have hwo3 : ((op.length : Int) - 1).toNat = op.length - 1 := by omega
                  have hwo4 : (op.length : Int) - 1 ≤ (cp : Int) := by omega
                  have hwo5 : op.length - 1 ≤ cp := by omega
                  have E := eq_bs x t.text
                  have HOX := Lib.hid hopx
                  have HLE := Lib.hid hlen
                  clear hopx hTX hlen
                  by_cases hx : x = t.text
                  · rw [if_neg (by rw [HOX.out]; simp [hx]), HOX.out, List.dropLast_concat] at HF
                    have E1 : ((bs x).toList == (bs t.text).toList) = true := by rw [E]; simp [hx]
                    clear E hx
                    generalize bs x = bx' at *
                    go_wp2_with fail
                    go_quiet (fail)
                    go_wp2_with fail
                    go_meet
                    have hpp : PM W w4 G cap front last op0 (some ⟨gb, 0, none⟩) cp := PM.pop (x := x) (by have := Pw4.out; rw [HOX.out] at this; exact this)
                    exact ⟨op0, some ⟨gb, 0, none⟩, cp, by rw [show op.length - 1 = op0.length by have := HLE.out; omega], hpp.mv ((Gr.refl _).drewN _), Bw4.out, HF.out, by have := HLE.out; omega⟩
                  · rw [if_pos (.inr (by rw [HOX.out]; simp [hx]))] at HF
                    have E1 : ((bs x).toList == (bs t.text).toList) = false := by rw [E]; simp [hx]
                    clear E hx
                    generalize bs x = bx' at *
                    go_wp2_with fail
                    go_quiet (fail)
                    go_wp2_with fail
                    go_ret2
                    exact RetParts.bad (n := 3) HF.out.symm (Pw4.out.gr.drewN _)

              case false =>
                have HI41r := Lib.hid (fun w => HI41.out w)
                rw [h41] at HI41r
                refine (HI41r.out _).mono ?_
                rintro e w4 ⟨rfl, hg2⟩
                have Pw4 := Lib.hid (Pw3.out.mv hg2)
                have Bw4 := Lib.hid ((hg2.b.block bt (lt_of_get Bw3.out)).trans Bw3.out)
                clear hg2 cc0 cc1 cc2
                have cc := cell3 Bw4.out
                obtain ⟨cc0, cc1, cc2⟩ := cc
                go_wp2_with fail
                cases h93 : isT t [93]
                case true =>
                  rw [if_pos (.inr h93)] at HF
                  have HI93r := Lib.hid (fun w => HI93.out w)
                  rw [h93] at HI93r
                  refine (HI93r.out _).mono ?_
                  rintro e w5 ⟨rfl, hg2⟩
                  have Pw5 := Lib.hid (Pw4.out.mv hg2)
                  have Bw5 := Lib.hid ((hg2.b.block bt (lt_of_get Bw4.out)).trans Bw4.out)
                  clear hg2 cc0 cc1 cc2
                  have cc := cell3 Bw5.out
                  obtain ⟨cc0, cc1, cc2⟩ := cc
                  have N3 := N.2.2
                  rcases Nat.eq_zero_or_pos op.length with ho | ho
                  · have hop0 : ((op.length : Nat) : Int) = 0 := by omega
                    rw [if_pos (.inl (List.eq_nil_of_length_eq_zero ho))] at HF
                    clear ho
                    go_wp2_with fail
                    go_quiet (fail)
                    go_wp2_with fail
                    go_ret2
                    exact RetParts.bad (n := 3) HF.out.symm (Pw5.out.gr.drewN _)
                  · obtain ⟨op0, x, hopx⟩ : ∃ op0 x, op = op0 ++ [x] := by
                      rcases List.eq_nil_or_concat op with e | ⟨r, x, e⟩
                      · rw [e] at ho; simp at ho
                      · exact ⟨r, x, by rw [e, List.concat_eq_append]⟩
                    have hTX := Pw5.out.tx
                    have hlen : op.length = op0.length + 1 := by rw [hopx, len_snoc]
                    obtain ⟨gb, hgb, hcap⟩ := tx_form' hopx hTX
                    have hcl := tx_last' hopx hgb hTX
                    subst hgb
                    have hop0 : ¬ ((op.length : Nat) : Int) = 0 := by omega
                    have hop0b : (((op.length : Nat) : Int) == 0) = false := beq_eq_false_iff_ne.2 hop0
                    have hwo : IntKind.i64.wrap ((op.length : Int) - 1) = (op.length : Int) - 1 := IntWalk.i64_in _ (by omega)
                    have hwo1 : (0 : Int) ≤ (op.length : Int) - 1 := by omega
                    have hwo2 : (op.length : Int) - 1 < (op.length : Int) := by omega
                    have hwo3 : ((op.length : Int) - 1).toNat = op.length - 1 := by omega
                    have hwo4 : (op.length : Int) - 1 ≤ (cp : Int) := by omega
                    have hwo5 : op.length - 1 ≤ cp := by omega
                    have E := eq_bs x t.text
                    have HOX := Lib.hid hopx
                    have HLE := Lib.hid hlen
                    clear hopx hTX hlen
                    by_cases hx : x = t.text
                    · rw [if_neg (by rw [HOX.out]; simp [hx]), HOX.out, List.dropLast_concat] at HF
                      have E1 : ((bs x).toList == (bs t.text).toList) = true := by rw [E]; simp [hx]
                      clear E hx
                      generalize bs x = bx' at *
                      go_wp2_with fail
                      go_quiet (fail)
                      go_wp2_with fail
                      go_meet
                      have hpp : PM W w5 G cap front last op0 (some ⟨gb, 0, none⟩) cp := PM.pop (x := x) (by have := Pw5.out; rw [HOX.out] at this; exact this)
                      exact ⟨op0, some ⟨gb, 0, none⟩, cp, by rw [show op.length - 1 = op0.length by have := HLE.out; omega], hpp.mv ((Gr.refl _).drewN _), Bw5.out, HF.out, by have := HLE.out; omega⟩
                    · rw [if_pos (.inr (by rw [HOX.out]; simp [hx]))] at HF
                      have E1 : ((bs x).toList == (bs t.text).toList) = false := by rw [E]; simp [hx]
                      clear E hx
                      generalize bs x = bx' at *
                      go_wp2_with fail
                      go_quiet (fail)
                      go_wp2_with fail
                      go_ret2
                      exact RetParts.bad (n := 3) HF.out.symm (Pw5.out.gr.drewN _)

                case false =>
                  rw [if_neg (by rw [h41, h93]; simp)] at HF
                  have HI93r := Lib.hid (fun w => HI93.out w)
                  rw [h93] at HI93r
                  refine (HI93r.out _).mono ?_
                  rintro e w5 ⟨rfl, hg2⟩
                  have Pw5 := Lib.hid (Pw4.out.mv hg2)
                  have Bw5 := Lib.hid ((hg2.b.block bt (lt_of_get Bw4.out)).trans Bw4.out)
                  clear hg2 cc0 cc1 cc2
                  have cc := cell3 Bw5.out
                  obtain ⟨cc0, cc1, cc2⟩ := cc
                  go_wp2_with fail
                  go_meet
                  exact ⟨op, bp, cp, rfl, Pw5.out, Bw5.out, HF.out, by have := N.2.2; omega⟩
        case rest =>
        obtain ⟨op', bp', cp', rfl, A3⟩ := hcut
        clear P1 B1 cc0 cc1 cc2 HF
        obtain ⟨wk, hWk⟩ : ∃ wk, wk = wc := ⟨_, rfl⟩
        subst hWk
        have PK := Lib.hid A3.out.1
        have BK := Lib.hid A3.out.2.1
        have HFK := Lib.hid A3.out.2.2
        clear A3
        go_wp2_with fail
        obtain ⟨vals, q1, q2, q3, q4⟩ := PK.out.out
        obtain ⟨bu, cu, hv, hcell, hfz, hTr⟩ := PM.last q1 q2 q3
        have hgr : Gr wk (wk.drew.alloc (.cells #[.int .i64 t.kind, .string (bs t.text), .int .i64 t.pos] 85)) := (Gr.refl wk).drew.alloc _
        have p2 := Lib.hid (owns_gr q2 hgr)
        have p3 := Lib.hid (fun i u hu => (q3 i u hu).gr hgr)
        have pT := Lib.hid (hTr.gr hgr)
        have p4 := Lib.hid q4
        have hcellA : (wk.alloc (.cells #[.int .i64 t.kind, .string (bs t.text), .int .i64 t.pos] 85)).cell? ⟨G, front.length, none⟩ = some (.slice bu last.length cu) := cell_gr ((Gr.refl wk).alloc _) hcell
        have hV := Lib.hid hv
        have PQ := Lib.hid (PK.out.mv hgr)
        have hws := PK.out.gr.size
        have cc := cell3 BK.out
        obtain ⟨cc0, cc1, cc2⟩ := cc
        have lf := N.1
        have hwf : IntKind.i64.wrap (front.length : Int) = (front.length : Int) := IntWalk.i64_in _ (by omega)
        have hlf1 : (front.length : Int) < (front.length : Int) + 1 := by omega
        have ll := N.2.1
        have hwsH := Lib.hid hws
        clear q2 q3 q4 hv hTr hgr hws
        go_region_law ((refine step_append_lies _ (by rfl) (.tmp 107) (.tmp 109) 67 (by rfl) W.heap.size 85 i85 _ 3 32 Tryz.underlying67 hq hq0 hq1 hq2 rfl (by decide) (.slice bu last.length cu) last.length (last.flatMap tcells) (by simp [Act.eval]) pT.out ⟨wk.heap.size, 0, none⟩ 1 1 (tcells t) (by simp [Act.eval]) rfl (news3 wk.drew _ _ _ _) (tcells_one t) (by decide) (by unfold maxLen; omega) (by omega) (by have := hwsH.out; simp; omega) (wk.heap.size + 1) (by simp) ?_; intro g' c' w3 ho hg hat hlt3; obtain ⟨⟨u0, hc3⟩, hf3⟩ := PM.add_cell q1 p2.out pT.out hg; have PA := Lib.hid (PM.add PQ.out q1 p2.out p3.out p4.out hV.out pT.out ho hg (by simpa using hat)); clear ho hg hat hlt3))
        all_goals (
          go_wp2_with fail
          go_roundg (gk - 1)
          case measure => have := HJ.out; have := HLT.out; omega
          case rel => exact ⟨j + 1, G, cap, front, last ++ [t], op', bp', cp', by go_num, by have := HJ.out; have := HLT.out; omega, rfl, rfl, PA.out, HFK.out.1, by omega, by rw [len_snoc]; omega, HFK.out.2⟩)
    · have hjl : l'.drop j = [] := List.drop_of_length_le (by have := HLN.out; omega)
      have hf := A.out.2.1
      rw [hjl, partF_end] at hf
      have HF := Lib.hid hf
      clear hf hjl
      by_cases hop : op = []
      · subst hop
        rw [if_pos rfl] at HF
        go_wp2_with fail
        go_ret2
        have hx := HF.out
        subst hx
        exact ⟨_, _, _, _, rfl, rfl, by simp, A.out.1.pw, A.out.1.gr⟩
      · rw [if_neg hop] at HF
        have hp : 0 < op.length := List.length_pos_iff.2 hop
        go_wp2_with fail
        go_ret2
        exact RetParts.bad (n := 3) HF.out.symm A.out.1.gr
end Go.Proofs.YtlmdpamehhcblaaGreatDoor
