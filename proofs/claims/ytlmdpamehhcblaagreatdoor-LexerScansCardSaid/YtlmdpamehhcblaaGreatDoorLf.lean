import Derived.Test.YtlmdpamehhcblaaGreatDoorLe
import Derived.Test.YtlmdpamehhcblaaGreatDoorBld
/- Contracts of the lexer: form, apart, Join, Normal. -/
namespace Go.Proofs.YtlmdpamehhcblaaGreatDoor
open Go.RowKit Go.Shelf
open YtlmdpamehhcblaaGreatDoorD (isDig isLet cls marks spanN wlen nlen nfront werr nerr nextT scanF scanT Tok formT apartT tok0 glueN ferrF joinT normT)

/-- Tokens in memory. -/
def TokAt (w : World) (g off : Nat) (l : List Tok) : Prop := ∀ j, j < l.length → w.cell? ⟨g, off + j * 3, none⟩ = some (.int .i64 (l.getD j tok0).kind) ∧ w.cell? ⟨g, off + j * 3 + 1, none⟩ = some (.string (bs (l.getD j tok0).text)) ∧ w.cell? ⟨g, off + j * 3 + 2, none⟩ = some (.int .i64 (l.getD j tok0).pos)
theorem TokAt.gr {w w' : World} {g off : Nat} {l : List Tok} (h : TokAt w g off l) (k : Gr w w') : TokAt w' g off l := fun j hj => ⟨cell_gr k (h j hj).1, cell_gr k (h j hj).2.1, cell_gr k (h j hj).2.2⟩
def tval (t : Tok) : Value := .agg #[.int .i64 t.kind, .string (bs t.text), .int .i64 t.pos]
set_option maxHeartbeats 1000000 in
theorem form_c (w : World) (t : Tok) (last : Bool) (hs : t.text.length ≤ 4611686018427387904) : Calls Tryz.prog 124 #[tval t, .bool last] w fun e w' => e = .returned (.int .i64 (formT t last : Nat)) ∧ Gr w w' := by
  have e : formT t last = (if t.kind = 0 then werr t.text else if t.kind = 1 then nerr t.text
    else if t.kind = 2 then (if t.text.length = 1 ∧ cls (t.text.getD 0 0) = 4 then 0 else 3)
    else if t.kind = 3 then (if last then (if t.text = [] then 0 else 3) else 9) else 1) := rfl
  have HW := Lib.hid (fun w => LWord_c w t.text hs)
  have HN := Lib.hid (fun w => LNumber_c w t.text hs)
  unfold tval
  obtain ⟨k, s, p⟩ := t
  dsimp only at *
  have hsz := bs_size s
  by_cases h0 : k = 0
  · subst h0
    rw [if_pos rfl] at e
    rw [e]
    clear e HN
    generalize werr s = r at *
    go_enter Tryz.func124, Tryz.ntmps124
    go_wp2_with fail
    refine (HW.out _).mono ?_
    rintro e w1 ⟨rfl, hg1⟩
    go_wp2_with fail
    go_ret
    exact ⟨rfl, ((Gr.refl w).alloc _).trans hg1⟩
  · rw [if_neg h0] at e
    by_cases h1 : k = 1
    · subst h1
      rw [if_pos rfl] at e
      rw [e]
      clear e HW
      generalize nerr s = r at *
      go_enter Tryz.func124, Tryz.ntmps124
      go_wp2_with fail
      refine (HN.out _).mono ?_
      rintro e w1 ⟨rfl, hg1⟩
      go_wp2_with fail
      go_ret
      exact ⟨rfl, ((Gr.refl w).alloc _).trans hg1⟩
    · rw [if_neg h1] at e
      by_cases h2 : k = 2
      · subst h2
        rw [if_pos rfl] at e
        clear HN HW
        by_cases hl : s.length = 1
        · have hz : 0 < (bs s).size := by omega
          by_cases hc : cls (s.getD 0 0) = 4
          · rw [if_pos ⟨hl, hc⟩] at e
            rw [e]
            have HC := Lib.hid (class0_c s hz 4 hc)
            clear e hc
            go_enter Tryz.func124, Tryz.ntmps124
            go_wp2_with fail
            refine (HC.out _).mono ?_
            rintro e w1 ⟨rfl, rfl⟩
            go_wp2_with fail
            go_ret
            exact ⟨rfl, ((Gr.refl w).alloc _)⟩
          · rw [if_neg (fun x => hc x.2)] at e
            rw [e]
            have HC := Lib.hid (class0_c s hz _ rfl)
            have k4 : ¬ ((cls (s.getD 0 0) : Nat) : Int) = 4 := by omega
            have k4b : (((cls (s.getD 0 0) : Nat) : Int) == 4) = false := beq_eq_false_iff_ne.2 k4
            generalize cls (s.getD 0 0) = kk at *
            clear e hc
            go_enter Tryz.func124, Tryz.ntmps124
            go_wp2_with fail
            refine (HC.out _).mono ?_
            rintro e w1 ⟨rfl, rfl⟩
            go_wp2_with fail
            go_ret
            exact ⟨rfl, ((Gr.refl w).alloc _)⟩
        · rw [if_neg (fun x => hl x.1)] at e
          rw [e]
          have k4 : ¬ ((s.length : Nat) : Int) = 1 := by omega
          clear e
          go_enter Tryz.func124, Tryz.ntmps124
          go_wp2_with fail
          go_ret
          exact ⟨rfl, ((Gr.refl w).alloc _)⟩
      · rw [if_neg h2] at e
        clear HN HW
        by_cases h3 : k = 3
        · subst h3
          rw [if_pos rfl] at e
          cases last with
          | false =>
            rw [if_neg (by simp)] at e
            rw [e]
            clear e
            go_enter Tryz.func124, Tryz.ntmps124
            go_wp2_with fail
            go_ret
            exact ⟨rfl, ((Gr.refl w).alloc _)⟩
          | true =>
            rw [if_pos rfl] at e
            by_cases hl : s = []
            · rw [if_pos hl] at e
              rw [e]
              subst hl
              have hE : (bs []).toList.isEmpty = true := by rw [bs_toList]; rfl
              clear e
              go_enter Tryz.func124, Tryz.ntmps124
              go_wp2_with fail
              go_ret
              exact ⟨rfl, ((Gr.refl w).alloc _)⟩
            · rw [if_neg hl] at e
              rw [e]
              have hE : (bs s).toList.isEmpty = false := by rw [bs_toList]; simp [hl]
              clear e
              go_enter Tryz.func124, Tryz.ntmps124
              go_wp2_with fail
              go_ret
              exact ⟨rfl, ((Gr.refl w).alloc _)⟩
        · rw [if_neg h3] at e
          rw [e]
          clear e
          go_enter Tryz.func124, Tryz.ntmps124
          go_wp2_with fail
          go_ret
          exact ⟨rfl, ((Gr.refl w).alloc _)⟩
set_option maxHeartbeats 1000000 in
theorem apart_c (w : World) (a b : Int) : Calls Tryz.prog 125 #[.int .i64 a, .int .i64 b] w fun e w' => e = .returned (.bool (apartT a b)) ∧ w' = w := by
  have e : apartT a b = ((b == 1 && (a == 0 || a == 1)) || (a == 0 && b == 0)) := rfl
  by_cases h1 : a = 0
  · subst h1
    by_cases h2 : b = 0
    · subst h2
      rw [e]
      go_enter Tryz.func125, Tryz.ntmps125
      go_wp2_with fail
      go_ret
      exact ⟨rfl, rfl⟩
    · have k2 : (b == 0) = false := beq_eq_false_iff_ne.2 h2
      by_cases h3 : b = 1
      · subst h3
        rw [e]
        go_enter Tryz.func125, Tryz.ntmps125
        go_wp2_with fail
        go_ret
        exact ⟨rfl, rfl⟩
      · have k3 : (b == 1) = false := beq_eq_false_iff_ne.2 h3
        rw [e, k2, k3]
        go_enter Tryz.func125, Tryz.ntmps125
        go_wp2_with fail
        go_ret
        exact ⟨rfl, rfl⟩
  · have k1 : (a == 0) = false := beq_eq_false_iff_ne.2 h1
    by_cases h2 : a = 1
    · subst h2
      by_cases h3 : b = 1
      · subst h3
        rw [e]
        go_enter Tryz.func125, Tryz.ntmps125
        go_wp2_with fail
        go_ret
        exact ⟨rfl, rfl⟩
      · have k3 : (b == 1) = false := beq_eq_false_iff_ne.2 h3
        rw [e, k3]
        go_enter Tryz.func125, Tryz.ntmps125
        go_wp2_with fail
        go_ret
        exact ⟨rfl, rfl⟩
    · have k2 : (a == 1) = false := beq_eq_false_iff_ne.2 h2
      by_cases h3 : b = 1
      · subst h3
        rw [e, k1, k2]
        go_enter Tryz.func125, Tryz.ntmps125
        go_wp2_with fail
        go_ret
        exact ⟨rfl, rfl⟩
      · have k3 : (b == 1) = false := beq_eq_false_iff_ne.2 h3
        rw [e, k1, k2, k3]
        go_enter Tryz.func125, Tryz.ntmps125
        go_wp2_with fail
        go_ret
        exact ⟨rfl, rfl⟩
theorem WriteByte_k (w : World) (B b : Nat) (l : List UInt8) (c : Nat) (hc : c < 256) (h : Bd w B b l) (hB : B ≤ w.heap.size) (hl : l.length + 1 ≤ 140737488355328) :
    Calls Tryz.prog 126 #[.pointer (some ⟨b, 0, none⟩), .int .u8 c] w fun e w' => e = .returned .nilIface ∧ Bd w' B b (l ++ [UInt8.ofNat c]) ∧ Below B w w' ∧ (∀ k o, w.heap[k]? = some o → k ≠ b → (∀ c fz, o ≠ .cells c 5 fz) → w'.heap[k]? = some o) :=
  (Any.Builder_WriteByte_k bl167 bx B b (Lib.byteCells l) c w h (by rw [byteCells_length]; exact hl) hB).mono fun e w' ⟨he, h1, h2, h3⟩ => ⟨he, by
    unfold Bd
    rw [byteCells_append]
    have : Lib.byteCells [UInt8.ofNat c] = [.int .u8 (c : Int)] := by
      simp only [Lib.byteCells, List.map_cons, List.map_nil, UInt8.toNat_ofNat']
      rw [Nat.mod_eq_of_lt hc]
    rw [this]; exact .inr h1, h2, fun k o hk hb ho => h3 k o hk (by simp; exact hb) ho⟩
theorem Bd.lt {w : World} {B b : Nat} {l : List UInt8} (h : Bd w B b l) : b < w.heap.size := by
  rcases h with h | h
  · obtain ⟨_, v, hv, _⟩ := h; exact (Array.getElem?_eq_some_iff.1 hv).1
  · obtain ⟨_, v, hv, _⟩ := h; exact (Array.getElem?_eq_some_iff.1 hv).1
theorem box3 (w : World) (a b c : Value) (t : TypeId) : (w.alloc (.cells #[a, b, c] t)).cell? ⟨w.heap.size, 0, none⟩ = some a ∧ (w.alloc (.cells #[a, b, c] t)).cell? ⟨w.heap.size, 1, none⟩ = some b ∧ (w.alloc (.cells #[a, b, c] t)).cell? ⟨w.heap.size, 2, none⟩ = some c := by
  have h : (w.alloc (.cells #[a, b, c] t)).heap[w.heap.size]? = some (.cells #[a, b, c] t) := heap_alloc_new w _
  refine ⟨?_, ?_, ?_⟩ <;> (unfold World.cell?; rw [h]; rfl)
theorem box3b (w : World) (a b c : Value) (t : TypeId) : (w.alloc (.cells #[a, b, c] t)).heap[w.heap.size]? = some (.cells #[a, b, c] t) := heap_alloc_new w _
/-- What Join returns. -/
def RetJoin (r : List UInt8 × Nat) (w : World) (e : Ending) (w' : World) : Prop := e = .returned (.tuple #[.string (bs r.1), .int .i64 r.2]) ∧ Gr w w'
set_option maxHeartbeats 2000000 in
set_option maxRecDepth 20000 in
theorem Join_c (w : World) (b : Option Addr) (g off c : Nat) (l : List Tok) (hb : l ≠ [] → b = some ⟨g, off, none⟩) (hl : TokAt w g off l) (hn : l.length ≤ 4611686018427387904) (hs : ∀ j, (l.getD j tok0).text.length ≤ 4611686018427387904) :
    Calls Tryz.prog 57 #[.slice b l.length c] w (RetJoin (joinT l) w) := by
  have e : joinT l = (if 4097 < l.length then ([], 5) else if ferrF l l.length 0 ≠ 0 then ([], ferrF l l.length 0)
    else if 4096 < (glueN l l.length).length then ([], 17) else (glueN l l.length, 0)) := rfl
  by_cases hbig : 4097 < l.length
  · rw [if_pos hbig] at e
    rw [e]
    unfold RetJoin
    clear e
    go_enter Tryz.func57, Tryz.ntmps57
    go_wp2_with fail
    go_ret2
    exact ⟨rfl, Gr.refl w⟩
  · rw [if_neg hbig] at e
    have HE := Lib.hid e
    have HL := Lib.hid hl
    have HB := Lib.hid hb
    have HF := Lib.hid (fun w (j : Nat) last => form_c w (l.getD j tok0) last (hs j))
    clear e hl hb hs
    go_enter Tryz.func57, Tryz.ntmps57
    go_wp2_with fail
    go_loopg [13] l.length (fun N p wr => ∃ (j : Nat), p = .int .i64 j ∧ N + j = l.length ∧ Aside (Bd wr w.heap.size w.heap.size (glueN l j) ∧ Gr w wr ∧ (glueN l j).length ≤ 25 * j ∧ ferrF l (l.length - j) j = ferrF l l.length 0))
    case atStart => exact ⟨0, rfl, rfl, Bd.new w, (Gr.refl w).alloc _, Nat.le_refl _, rfl⟩
    case round =>
      obtain ⟨j, rfl, hj, A⟩ := hrel
      have HJ := Lib.hid hj; clear hj
      by_cases hlt : j < l.length
      · obtain rfl := HB.out (fun h => by rw [h] at hlt; simp at hlt)
        obtain ⟨t1, t2, t3⟩ := (HL.out.gr A.out.2.1) j hlt
        have HFj := Lib.hid (fun w last => HF.out w j last)
        have hlast : ((j : Int) == (l.length : Int) - 1) = decide (j + 1 = l.length) := by
          rw [Bool.eq_iff_iff, beq_iff_eq, decide_eq_true_iff]; omega
        have HX := Lib.hid (YtlmdpamehhcblaaGreatDoorD.ferrF_err hlt)
        have HO := Lib.hid (YtlmdpamehhcblaaGreatDoorD.ferrF_ok hlt)
        have HFE := Lib.hid A.out.2.2.2
        by_cases he : formT (l.getD j tok0) (decide (j + 1 = l.length)) = 0
        · have htl := YtlmdpamehhcblaaGreatDoorD.formT_len he
          have HP := Lib.hid ((HO.out he).symm.trans HFE.out)
          clear HO
          have HFj := Lib.hid (fun w => HFj.out w (decide (j + 1 = l.length)))
          rw [he] at HFj
          clear HX HFE he
          have b1 := box3 wr (.int .i64 (l.getD j tok0).kind) (.string (bs (l.getD j tok0).text)) (.int .i64 (l.getD j tok0).pos) 85
          have hG0 : j = 0 → glueN l (j + 1) = glueN l j ++ (l.getD j tok0).text := by
            intro h; subst h; exact YtlmdpamehhcblaaGreatDoorD.glueN_first l
          have hG1 : ∀ i, j = i + 1 → apartT (l.getD i tok0).kind (l.getD j tok0).kind = false → glueN l (j + 1) = glueN l j ++ (l.getD j tok0).text := by
            intro i h; subst h; exact YtlmdpamehhcblaaGreatDoorD.glueN_near
          have hG2 : ∀ i, j = i + 1 → apartT (l.getD i tok0).kind (l.getD j tok0).kind = true → glueN l (j + 1) = glueN l j ++ [32] ++ (l.getD j tok0).text := by
            intro i h; subst h; exact YtlmdpamehhcblaaGreatDoorD.glueN_apart
          have HG0 := Lib.hid hG0; have HG1 := Lib.hid hG1; have HG2 := Lib.hid hG2
          clear hG0 hG1 hG2
          generalize l.getD j tok0 = t at *
          have hAt := HL.out.gr A.out.2.1
          go_wp2_with fail
          refine (HFj.out _).mono ?_
          rintro e w1 ⟨rfl, hg1⟩
          have G1 := Lib.hid ((A.out.2.1.alloc _).trans hg1)
          have D1 := Lib.hid ((A.out.1.below ((Gr.refl wr).alloc (.cells #[.int .i64 t.kind, .string (bs t.text), .int .i64 t.pos] 85))).below hg1)
          have hAt1 := (hAt.gr ((Gr.refl wr).alloc (.cells #[.int .i64 t.kind, .string (bs t.text), .int .i64 t.pos] 85))).gr hg1
          have c0 := cell_gr hg1 b1.1
          have c1 := cell_gr hg1 b1.2.1
          have hlen := A.out.2.2.1
          have hbk := (hg1.b.block wr.heap.size (by simp)).trans (box3b wr (.int .i64 t.kind) (.string (bs t.text)) (.int .i64 t.pos) 85)
          have hwr := A.out.1.lt
          have HBK := Lib.hid hbk
          clear hbk
          clear hAt b1 t1 t2 t3 hg1 A
          rcases Nat.eq_zero_or_pos j with hj0 | hjp
          · subst hj0
            have HG := Lib.hid (HG0.out rfl)
            clear HG0 HG1 HG2 hAt1
            go_wp2_with fail
            go_quiet (fail)
            go_wp2_with fail
            refine (WriteString_c _ w.heap.size w.heap.size (glueN l 0) t.text (D1.out.below ((Gr.refl w1).drewN nq)) (by have := G1.out.size; exact this) (by omega)).mono ?_
            rintro e w2 ⟨rfl, hd2, hb2⟩
            have A2 : Aside (Bd w2 w.heap.size w.heap.size (glueN l 1) ∧ Gr w w2 ∧ (glueN l 1).length ≤ 25 * 1) := by
              rw [← HG.out] at hd2
              exact ⟨hd2, (G1.out.drewN nq).trans_below hb2 (Nat.le_refl _), by rw [HG.out, List.length_append]; omega⟩
            clear hd2 hb2 G1 D1 HG
            go_wp2_with fail
            go_roundg (gk - 1)
            case measure => have := HJ.out; omega
            case rel => exact ⟨1, rfl, by have := HJ.out; omega, A2.out.1, A2.out.2.1, A2.out.2.2, HP.out⟩
          · obtain ⟨i, rfl⟩ : ∃ i, j = i + 1 := ⟨j - 1, by omega⟩
            have p0 := (hAt1 i (by omega)).1
            have HA := Lib.hid (fun w => apart_c w (l.getD i tok0).kind t.kind)
            cases hap : apartT (l.getD i tok0).kind t.kind with
            | false =>
              have HG := Lib.hid (HG1.out i rfl hap)
              rw [hap] at HA
              clear HG0 HG1 HG2 hAt1 hap
              generalize (l.getD i tok0).kind = kp at *
              go_wp2_with fail
              go_quiet (first | (go_at_call 125; exact Calls.quiet_of_same (HA.out _)))
              go_wp2_with fail
              refine (WriteString_c _ w.heap.size w.heap.size (glueN l (i + 1)) t.text (D1.out.below ((Gr.refl w1).drewN nq)) (by have := G1.out.size; exact this) (by omega)).mono ?_
              rintro e w2 ⟨rfl, hd2, hb2⟩
              have A2 : Aside (Bd w2 w.heap.size w.heap.size (glueN l (i + 1 + 1)) ∧ Gr w w2 ∧ (glueN l (i + 1 + 1)).length ≤ 25 * (i + 1 + 1)) := by
                rw [← HG.out] at hd2
                exact ⟨hd2, (G1.out.drewN nq).trans_below hb2 (Nat.le_refl _), by rw [HG.out, List.length_append]; omega⟩
              clear hd2 hb2 G1 D1 HG
              go_wp2_with fail
              go_roundg (gk - 1)
              case measure => have := HJ.out; omega
              case rel => exact ⟨i + 1 + 1, by go_num, by have := HJ.out; omega, A2.out.1, A2.out.2.1, A2.out.2.2, HP.out⟩
            | true =>
              have HG := Lib.hid (HG2.out i rfl hap)
              rw [hap] at HA
              clear HG0 HG1 HG2 hAt1 hap
              generalize (l.getD i tok0).kind = kp at *
              go_wp2_with fail
              go_quiet (first | (go_at_call 125; exact Calls.quiet_of_same (HA.out _)))
              go_wp2_with fail
              refine (WriteByte_k _ w.heap.size w.heap.size (glueN l (i + 1)) 32 (by decide) (D1.out.below ((Gr.refl w1).drewN nq)) (by have := G1.out.size; exact this) (by omega)).mono ?_
              rintro e w2 ⟨rfl, hd2, hb2, hk2⟩
              have G2 := Lib.hid ((G1.out.drewN nq).trans_below hb2 (Nat.le_refl _))
              have hbk2 := hk2 wr.heap.size _ HBK.out (by omega) (by intro c fz h; cases h)
              have c1' : w2.cell? ⟨wr.heap.size, 1, none⟩ = some (.string (bs t.text)) := by unfold World.cell?; rw [hbk2]; rfl
              have D2 := Lib.hid hd2
              clear hd2 hb2 hk2 hbk2 G1 D1 HBK c0 c1
              go_wp2_with fail
              refine (WriteString_c _ w.heap.size w.heap.size (glueN l (i + 1) ++ [32]) t.text D2.out G2.out.size (by rw [List.length_append, List.length_singleton]; omega)).mono ?_
              rintro e w3 ⟨rfl, hd3, hb3⟩
              have A2 : Aside (Bd w3 w.heap.size w.heap.size (glueN l (i + 1 + 1)) ∧ Gr w w3 ∧ (glueN l (i + 1 + 1)).length ≤ 25 * (i + 1 + 1)) := by
                rw [← HG.out] at hd3
                exact ⟨hd3, G2.out.trans_below hb3 (Nat.le_refl _), by rw [HG.out, List.length_append, List.length_append, List.length_singleton]; omega⟩
              clear hd3 hb3 G2 D2 HG
              go_wp2_with fail
              go_roundg (gk - 1)
              case measure => have := HJ.out; omega
              case rel => exact ⟨i + 1 + 1, by go_num, by have := HJ.out; omega, A2.out.1, A2.out.2.1, A2.out.2.2, HP.out⟩
        · have HFj := Lib.hid (fun w => HFj.out w (decide (j + 1 = l.length)))
          have hx := HX.out he
          rw [HFE.out] at hx
          have HJ2 := HE.out
          rw [hx, if_pos he] at HJ2
          have HJ2 := Lib.hid HJ2
          clear HX HO HFE hx
          have kE : ¬ ((formT (l.getD j tok0) (decide (j + 1 = l.length)) : Nat) : Int) = 0 := by omega
          generalize formT (l.getD j tok0) (decide (j + 1 = l.length)) = q at *
          generalize l.getD j tok0 = t at *
          go_wp2_with fail
          refine (HFj.out _).mono ?_
          rintro e w1 ⟨rfl, hg1⟩
          go_wp2_with fail
          go_ret2
          rw [HJ2.out]
          exact ⟨rfl, (A.out.2.1.alloc _).trans hg1⟩
      · have hjl : j = l.length := by have := HJ.out; omega
        subst hjl
        have hx := A.out.2.2.2
        rw [YtlmdpamehhcblaaGreatDoorD.ferrF_end (Nat.le_refl _)] at hx
        have HJ2 := HE.out
        rw [← hx, if_neg (by simp)] at HJ2
        have HJ2 := Lib.hid HJ2
        have HL2 := Lib.hid (Len_c wr w.heap.size w.heap.size (glueN l l.length) A.out.1)
        have HS2 := Lib.hid (String_c wr w.heap.size w.heap.size (glueN l l.length) A.out.1 A.out.2.1.size)
        clear hx
        generalize glueN l l.length = r at *
        by_cases hr : 4096 < r.length
        · go_wp2_with fail
          refine HL2.out.mono ?_
          rintro e w1 ⟨rfl, rfl⟩
          go_wp2_with fail
          go_ret2
          rw [HJ2.out, if_pos hr]
          exact ⟨rfl, A.out.2.1⟩
        · go_wp2_with fail
          refine HL2.out.mono ?_
          rintro e w1 ⟨rfl, rfl⟩
          go_wp2_with fail
          refine HS2.out.mono ?_
          rintro e w2 ⟨rfl, hd2, hb2⟩
          go_wp2_with fail
          go_ret2
          rw [HJ2.out, if_neg hr]
          exact ⟨rfl, A.out.2.1.trans_below hb2 (Nat.le_refl _)⟩
end Go.Proofs.YtlmdpamehhcblaaGreatDoor
