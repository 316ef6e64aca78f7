import Derived.Test.YtlmdpamehhcblaaGreatDoorAw
import Derived.Test.YtlmdpamehhcblaaGreatDoorUv
/- UnitsScales: the walk. -/
namespace Go.Proofs.YtlmdpamehhcblaaGreatDoor
open Go.RowKit
open Go.Lib (itoa decDigits)
open YtlmdpamehhcblaaGreatDoorD (rtext uexact uparse uword uval stext sval snum sden usign ubeyond)

/-- What a row of the table asks and answers. -/
def ScR (T S G : ByteArray) (n : Int) : Prop := ∃ A N C : ByteArray,
  (∀ w, Env w → Calls Tryz.prog 21 #[.string (T ++ S)] w fun e w' => e = .returned (.tuple #[.string A, .int .i64 0]) ∧ Gr w w') ∧
  (∀ w, Env w → Calls Tryz.prog 36 #[.int .i64 n] w fun e w' => e = .returned (.string N) ∧ Gr w w') ∧
  (∀ w, Env w → Calls Tryz.prog 35 #[.string A, .string N] w fun e w' => e = .returned (.tuple #[.string C, .int .i64 0]) ∧ Gr w w') ∧
  ((∀ w, Env w → Calls Tryz.prog 21 #[.string (T ++ G)] w fun e w' => e = .returned (.tuple #[.string C, .int .i64 0]) ∧ Gr w w') ∨
   ∃ M1 M2 : ByteArray, ∃ d k : Int, (d < 0 ∨ k < 0) ∧
    (∀ w, Env w → Calls Tryz.prog 21 #[.string (T ++ G)] w fun e w' => e = .returned (.tuple #[.string (bs []), .int .i64 2]) ∧ Gr w w') ∧
    (∀ w, Env w → Calls Tryz.prog 36 #[.int .i64 100000] w fun e w' => e = .returned (.string M1) ∧ Gr w w') ∧
    (∀ w, Env w → Calls Tryz.prog 36 #[.int .i64 (-100000)] w fun e w' => e = .returned (.string M2) ∧ Gr w w') ∧
    (∀ w, Env w → Calls Tryz.prog 37 #[.string M1, .string C] w fun e w' => e = .returned (.tuple #[.int .i64 d, .int .i64 0]) ∧ Gr w w') ∧
    (∀ w, Env w → Calls Tryz.prog 37 #[.string C, .string M2] w fun e w' => e = .returned (.tuple #[.int .i64 k, .int .i64 0]) ∧ Gr w w'))
theorem sign_lo (m : Int) : m.sign = -1 ∨ m.sign = 0 ∨ m.sign = 1 := by
  rcases Int.lt_trichotomy m 0 with hm | hm | hm
  · left; exact Int.sign_eq_neg_one_of_neg hm
  · right; left; subst hm; rfl
  · right; right; exact Int.sign_eq_one_of_pos hm
theorem scR_of (sg : Bool) {a b u v : Nat} (n : Int) (ha : a < 100) (hb : b < 10000) (hu : u = 0 ∨ u = 1 ∨ u = 4) (hv : v < 5) (hn : uval u * ((n : Int) : Rat) = uval v) (n0 : 0 ≤ n) (n1 : n ≤ 1000) (T S G : ByteArray)
    (hS : T ++ S = bs (stext sg a b ++ 32 :: uword u)) (hG : T ++ G = bs (stext sg a b ++ 32 :: uword v)) : ScR T S G n := by
  have hu5 : u < 5 := by omega
  have x1 := YtlmdpamehhcblaaGreatDoorD.uexact_scale sg ha hb hu5
  rw [YtlmdpamehhcblaaGreatDoorD.scale_small sg ha hu] at x1
  simp only [Bool.false_eq_true, if_false] at x1
  have x2 := YtlmdpamehhcblaaGreatDoorD.uexact_scale sg ha hb hv
  have q1 := YtlmdpamehhcblaaGreatDoorD.sval_Q (u := u) sg ha hb
  have q2 := YtlmdpamehhcblaaGreatDoorD.sval_Q (u := v) sg ha hb
  have qn : YtlmdpamehhcblaaGreatDoorD.Q ((n : Int) : Rat) := YtlmdpamehhcblaaGreatDoorD.Q.of (k := 6) (by decide) (by
    show n.natAbs < _
    have : (10 : Nat) ^ 6 = 1000000 := by decide
    omega) (by show 1 < _; decide)
  have em : sval sg a b * uval u * ((n : Int) : Rat) = sval sg a b * uval v := by rw [Rat.mul_assoc, hn]
  have len : ∀ u, (stext sg a b ++ 32 :: uword u).length < 4294967281 := fun u => by
    have := YtlmdpamehhcblaaGreatDoorD.uword4 u
    have l1 := YtlmdpamehhcblaaGreatDoorD.len6 (n := a) (by omega)
    have l2 := YtlmdpamehhcblaaGreatDoorD.len6 (n := b) (by omega)
    unfold YtlmdpamehhcblaaGreatDoorD.stext
    cases sg <;> simp <;> omega
  refine ⟨bs (rtext (sval sg a b * uval u)), bs (rtext ((n : Int) : Rat)), bs (rtext (sval sg a b * uval v)), ?_, ?_, ?_, ?_⟩
  · intro w he
    have := Exact_c w he _ (len u)
    rw [x1] at this
    rw [hS]
    exact this
  · intro w he
    exact RWhole_c w he n (by omega) (by omega)
  · intro w he
    have := RMul_c w he _ _ q1 qn
    rw [em] at this
    exact this
  · cases hby : ubeyond (sval sg a b * uval v) with
    | false =>
      left
      intro w he
      have := Exact_c w he _ (len v)
      rw [x2, hby] at this
      rw [hG]
      exact this
    | true =>
      right
      generalize hC : sval sg a b * uval v = C at *
      refine ⟨bs (rtext ((100000 : Int) : Rat)), bs (rtext ((-100000 : Int) : Rat)), _, _, ?_, ?_, ?_, ?_, fun w he => RCompare_c w he _ C q_big q2, fun w he => RCompare_c w he C _ q2 q_low⟩
      · have hh : (decide (((100000 : Int) : Rat) < C) || decide (C < ((-100000 : Int) : Rat))) = true := hby
        rw [Bool.or_eq_true, decide_eq_true_iff, decide_eq_true_iff] at hh
        rcases hh with hh | hh
        · left; exact (sgn_neg _ _).2 hh
        · right; exact (sgn_neg _ _).2 hh
      · intro w he
        have := Exact_c w he _ (len v)
        rw [x2, hby] at this
        rw [hG]
        exact this
      · intro w he; exact RWhole_c w he 100000 (by decide) (by decide)
      · intro w he; exact RWhole_c w he (-100000) (by decide) (by decide)
/-- The table's block. -/
def scRow : Array Value := #[.string { data := #[32, 109, 109] }, .string { data := #[32, 99, 109] }, .int .i64 10, .string { data := #[32, 117, 109] }, .string { data := #[32, 109, 109] }, .int .i64 1000, .string { data := #[32, 116, 104, 111, 117] }, .string { data := #[32, 105, 110] }, .int .i64 1000]
theorem scRow_cell (w : World) (t : TypeId) (j : Nat) : (w.alloc (.cells scRow t)).cell? ⟨w.heap.size, j, none⟩ = scRow[j]? := by
  have h : (w.alloc (.cells scRow t)).heap[w.heap.size]? = some (.cells scRow t) := heap_alloc_new w _
  unfold World.cell?; rw [h]; rfl
set_option maxHeartbeats 8000000 in
set_option maxRecDepth 20000 in
theorem scales_pos (w : World) (he : Env w) (a b : Int) (A B : Nat) (X Y : ByteArray) (ha0 : 0 ≤ a) (ha1 : a ≤ 65535) (hb0 : 0 ≤ b) (hb1 : b ≤ 65535) (hA : a.tmod 100 = A) (hB : b.tmod 10000 = B) (hX : X.size ≤ 10) (hY : Y.size ≤ 10)
    (hIX : ∀ w, Env w → Calls Tryz.prog 34 #[.int .i64 A] w fun e w' => e = .returned (.string X) ∧ Gr w w')
    (hIY : ∀ w, Env w → Calls Tryz.prog 34 #[.int .i64 B] w fun e w' => e = .returned (.string Y) ∧ Gr w w')
    (h0 : ScR (X ++ { data := #[46] } ++ Y) { data := #[32, 109, 109] } { data := #[32, 99, 109] } 10) (h1 : ScR (X ++ { data := #[46] } ++ Y) { data := #[32, 117, 109] } { data := #[32, 109, 109] } 1000) (h2 : ScR (X ++ { data := #[46] } ++ Y) { data := #[32, 116, 104, 111, 117] } { data := #[32, 105, 110] } 1000) :
    Calls Tryz.prog 7 #[.int .u16 a, .int .u16 b, .bool false] w fun e w' => e = .returned (.bool true) ∧ Gr w w' := by
  have HA := Lib.hid (fun w he => awake13_c w he)
  have HE := Lib.hid he
  have HX := Lib.hid hIX; have HY := Lib.hid hIY; have K0 := Lib.hid h0; have K1 := Lib.hid h1; have K2 := Lib.hid h2
  clear he hIX hIY h0 h1 h2
  go_enter Tryz.func7, Tryz.ntmps7
  go_wp2_with fail
  refine (HX.out _ HE.out).mono ?_
  rintro e w1 ⟨rfl, hg1⟩
  go_wp2_with fail
  refine (HY.out _ (HE.out.gr hg1)).mono ?_
  rintro e w2 ⟨rfl, hg2⟩
  have G2 := Lib.hid (hg1.trans hg2)
  clear hg1 hg2
  go_wp2_with fail
  have GR := Lib.hid (G2.out.alloc (.cells scRow 48))
  have CR := Lib.hid (scRow_cell w2 48)
  have HE2 := Lib.hid (HE.out.gr GR.out)
  go_loopg [38] 3 (fun k i wr => ∃ j : Nat, k + j = 3 ∧ i = .int .i64 j ∧ Aside (Gr (w2.alloc (.cells scRow 48)) wr))
  case atStart => exact ⟨0, rfl, rfl, Gr.refl _⟩
  case round =>
    obtain ⟨j, hj, rfl, AS⟩ := hrel
    match j, hj with
    | 0, hj =>
      have c0 : wr.cell? ⟨w2.heap.size, 0, none⟩ = some (.string { data := #[32, 109, 109] }) := cell_gr AS.out ((CR.out 0).trans rfl)
      have c1 : wr.cell? ⟨w2.heap.size, 1, none⟩ = some (.string { data := #[32, 99, 109] }) := cell_gr AS.out ((CR.out 1).trans rfl)
      have c2 : wr.cell? ⟨w2.heap.size, 2, none⟩ = some (.int .i64 10) := cell_gr AS.out ((CR.out 2).trans rfl)
      have GW := Lib.hid AS.out
      obtain ⟨P, N, C, k1, k2, k3, k4⟩ := K0.out
      have k1 := Lib.hid k1; have k2 := Lib.hid k2; have k3 := Lib.hid k3; have k4 := Lib.hid k4
      rcases k4.out with k5 | ⟨M1, M2, d, k, hdk, k5, k6, k7, k8, k9⟩
      · have k5 := Lib.hid k5
        clear k4
        go_wp2_with fail
        refine (k1.out _ (HE2.out.gr (GW.out.alloc _))).mono ?_
        rintro e w3 ⟨rfl, hg3⟩
        have d1 := cell_gr hg3 (new3 wr (.string { data := #[32, 109, 109] }) (.string { data := #[32, 99, 109] }) (.int .i64 10) 48).2.1
        have d2 := cell_gr hg3 (new3 wr (.string { data := #[32, 109, 109] }) (.string { data := #[32, 99, 109] }) (.int .i64 10) 48).2.2
        have G3 := Lib.hid ((GW.out.alloc _).trans hg3)
        clear hg3
        go_wp2_with fail
        refine (k5.out _ (HE2.out.gr G3.out)).mono ?_
        rintro e w4 ⟨rfl, hg4⟩
        have d3 := cell_gr hg4 d2
        have G4 := Lib.hid (G3.out.trans hg4)
        clear hg4
        go_wp2_with fail
        refine (k2.out _ (HE2.out.gr G4.out)).mono ?_
        rintro e w5 ⟨rfl, hg5⟩
        have G5 := Lib.hid (G4.out.trans hg5)
        clear hg5
        go_wp2_with fail
        refine (k3.out _ (HE2.out.gr G5.out)).mono ?_
        rintro e w6 ⟨rfl, hg6⟩
        have G6 := Lib.hid (G5.out.trans hg6)
        clear hg6
        go_wp2_with fail
        go_roundg 2
        case measure => omega
        case rel => exact ⟨1, by omega, by go_num, G6.out⟩
      · have k5 := Lib.hid k5; have k6 := Lib.hid k6; have k7 := Lib.hid k7; have k8 := Lib.hid k8; have k9 := Lib.hid k9
        clear k4
        go_wp2_with fail
        refine (k1.out _ (HE2.out.gr (GW.out.alloc _))).mono ?_
        rintro e w3 ⟨rfl, hg3⟩
        have d1 := cell_gr hg3 (new3 wr (.string { data := #[32, 109, 109] }) (.string { data := #[32, 99, 109] }) (.int .i64 10) 48).2.1
        have d2 := cell_gr hg3 (new3 wr (.string { data := #[32, 109, 109] }) (.string { data := #[32, 99, 109] }) (.int .i64 10) 48).2.2
        have G3 := Lib.hid ((GW.out.alloc _).trans hg3)
        clear hg3
        go_wp2_with fail
        refine (k5.out _ (HE2.out.gr G3.out)).mono ?_
        rintro e w4 ⟨rfl, hg4⟩
        have d3 := cell_gr hg4 d2
        have G4 := Lib.hid (G3.out.trans hg4)
        clear hg4
        go_wp2_with fail
        refine (k2.out _ (HE2.out.gr G4.out)).mono ?_
        rintro e w5 ⟨rfl, hg5⟩
        have G5 := Lib.hid (G4.out.trans hg5)
        clear hg5
        go_wp2_with fail
        refine (k3.out _ (HE2.out.gr G5.out)).mono ?_
        rintro e w6 ⟨rfl, hg6⟩
        have G6 := Lib.hid (G5.out.trans hg6)
        clear hg6
        go_wp2_with fail
        refine (k6.out _ (HE2.out.gr G6.out)).mono ?_
        rintro e w7 ⟨rfl, hg7⟩
        have G7 := Lib.hid (G6.out.trans hg7)
        clear hg7
        go_wp2_with fail
        refine (k8.out _ (HE2.out.gr G7.out)).mono ?_
        rintro e w8 ⟨rfl, hg8⟩
        have G8 := Lib.hid (G7.out.trans hg8)
        clear hg8
        go_wp2_with fail
        refine (k7.out _ (HE2.out.gr G8.out)).mono ?_
        rintro e w9 ⟨rfl, hg9⟩
        have G9 := Lib.hid (G8.out.trans hg9)
        clear hg9
        go_wp2_with fail
        refine (k9.out _ (HE2.out.gr G9.out)).mono ?_
        rintro e w10 ⟨rfl, hg10⟩
        have G10 := Lib.hid (G9.out.trans hg10)
        clear hg10
        rcases hdk with hd | hk
        · go_wp2_with fail
          go_roundg 2
          case measure => omega
          case rel => exact ⟨1, by omega, by go_num, G10.out⟩
        · by_cases hd : d < 0
          · go_wp2_with fail
            go_roundg 2
            case measure => omega
            case rel => exact ⟨1, by omega, by go_num, G10.out⟩
          · go_wp2_with fail
            go_roundg 2
            case measure => omega
            case rel => exact ⟨1, by omega, by go_num, G10.out⟩
    | 1, hj =>
      have c0 : wr.cell? ⟨w2.heap.size, 3, none⟩ = some (.string { data := #[32, 117, 109] }) := cell_gr AS.out ((CR.out 3).trans rfl)
      have c1 : wr.cell? ⟨w2.heap.size, 4, none⟩ = some (.string { data := #[32, 109, 109] }) := cell_gr AS.out ((CR.out 4).trans rfl)
      have c2 : wr.cell? ⟨w2.heap.size, 5, none⟩ = some (.int .i64 1000) := cell_gr AS.out ((CR.out 5).trans rfl)
      have GW := Lib.hid AS.out
      obtain ⟨P, N, C, k1, k2, k3, k4⟩ := K1.out
      have k1 := Lib.hid k1; have k2 := Lib.hid k2; have k3 := Lib.hid k3; have k4 := Lib.hid k4
      rcases k4.out with k5 | ⟨M1, M2, d, k, hdk, k5, k6, k7, k8, k9⟩
      · have k5 := Lib.hid k5
        clear k4
        go_wp2_with fail
        refine (k1.out _ (HE2.out.gr (GW.out.alloc _))).mono ?_
        rintro e w3 ⟨rfl, hg3⟩
        have d1 := cell_gr hg3 (new3 wr (.string { data := #[32, 117, 109] }) (.string { data := #[32, 109, 109] }) (.int .i64 1000) 48).2.1
        have d2 := cell_gr hg3 (new3 wr (.string { data := #[32, 117, 109] }) (.string { data := #[32, 109, 109] }) (.int .i64 1000) 48).2.2
        have G3 := Lib.hid ((GW.out.alloc _).trans hg3)
        clear hg3
        go_wp2_with fail
        refine (k5.out _ (HE2.out.gr G3.out)).mono ?_
        rintro e w4 ⟨rfl, hg4⟩
        have d3 := cell_gr hg4 d2
        have G4 := Lib.hid (G3.out.trans hg4)
        clear hg4
        go_wp2_with fail
        refine (k2.out _ (HE2.out.gr G4.out)).mono ?_
        rintro e w5 ⟨rfl, hg5⟩
        have G5 := Lib.hid (G4.out.trans hg5)
        clear hg5
        go_wp2_with fail
        refine (k3.out _ (HE2.out.gr G5.out)).mono ?_
        rintro e w6 ⟨rfl, hg6⟩
        have G6 := Lib.hid (G5.out.trans hg6)
        clear hg6
        go_wp2_with fail
        go_roundg 1
        case measure => omega
        case rel => exact ⟨2, by omega, by go_num, G6.out⟩
      · have k5 := Lib.hid k5; have k6 := Lib.hid k6; have k7 := Lib.hid k7; have k8 := Lib.hid k8; have k9 := Lib.hid k9
        clear k4
        go_wp2_with fail
        refine (k1.out _ (HE2.out.gr (GW.out.alloc _))).mono ?_
        rintro e w3 ⟨rfl, hg3⟩
        have d1 := cell_gr hg3 (new3 wr (.string { data := #[32, 117, 109] }) (.string { data := #[32, 109, 109] }) (.int .i64 1000) 48).2.1
        have d2 := cell_gr hg3 (new3 wr (.string { data := #[32, 117, 109] }) (.string { data := #[32, 109, 109] }) (.int .i64 1000) 48).2.2
        have G3 := Lib.hid ((GW.out.alloc _).trans hg3)
        clear hg3
        go_wp2_with fail
        refine (k5.out _ (HE2.out.gr G3.out)).mono ?_
        rintro e w4 ⟨rfl, hg4⟩
        have d3 := cell_gr hg4 d2
        have G4 := Lib.hid (G3.out.trans hg4)
        clear hg4
        go_wp2_with fail
        refine (k2.out _ (HE2.out.gr G4.out)).mono ?_
        rintro e w5 ⟨rfl, hg5⟩
        have G5 := Lib.hid (G4.out.trans hg5)
        clear hg5
        go_wp2_with fail
        refine (k3.out _ (HE2.out.gr G5.out)).mono ?_
        rintro e w6 ⟨rfl, hg6⟩
        have G6 := Lib.hid (G5.out.trans hg6)
        clear hg6
        go_wp2_with fail
        refine (k6.out _ (HE2.out.gr G6.out)).mono ?_
        rintro e w7 ⟨rfl, hg7⟩
        have G7 := Lib.hid (G6.out.trans hg7)
        clear hg7
        go_wp2_with fail
        refine (k8.out _ (HE2.out.gr G7.out)).mono ?_
        rintro e w8 ⟨rfl, hg8⟩
        have G8 := Lib.hid (G7.out.trans hg8)
        clear hg8
        go_wp2_with fail
        refine (k7.out _ (HE2.out.gr G8.out)).mono ?_
        rintro e w9 ⟨rfl, hg9⟩
        have G9 := Lib.hid (G8.out.trans hg9)
        clear hg9
        go_wp2_with fail
        refine (k9.out _ (HE2.out.gr G9.out)).mono ?_
        rintro e w10 ⟨rfl, hg10⟩
        have G10 := Lib.hid (G9.out.trans hg10)
        clear hg10
        rcases hdk with hd | hk
        · go_wp2_with fail
          go_roundg 1
          case measure => omega
          case rel => exact ⟨2, by omega, by go_num, G10.out⟩
        · by_cases hd : d < 0
          · go_wp2_with fail
            go_roundg 1
            case measure => omega
            case rel => exact ⟨2, by omega, by go_num, G10.out⟩
          · go_wp2_with fail
            go_roundg 1
            case measure => omega
            case rel => exact ⟨2, by omega, by go_num, G10.out⟩
    | 2, hj =>
      have c0 : wr.cell? ⟨w2.heap.size, 6, none⟩ = some (.string { data := #[32, 116, 104, 111, 117] }) := cell_gr AS.out ((CR.out 6).trans rfl)
      have c1 : wr.cell? ⟨w2.heap.size, 7, none⟩ = some (.string { data := #[32, 105, 110] }) := cell_gr AS.out ((CR.out 7).trans rfl)
      have c2 : wr.cell? ⟨w2.heap.size, 8, none⟩ = some (.int .i64 1000) := cell_gr AS.out ((CR.out 8).trans rfl)
      have GW := Lib.hid AS.out
      obtain ⟨P, N, C, k1, k2, k3, k4⟩ := K2.out
      have k1 := Lib.hid k1; have k2 := Lib.hid k2; have k3 := Lib.hid k3; have k4 := Lib.hid k4
      rcases k4.out with k5 | ⟨M1, M2, d, k, hdk, k5, k6, k7, k8, k9⟩
      · have k5 := Lib.hid k5
        clear k4
        go_wp2_with fail
        refine (k1.out _ (HE2.out.gr (GW.out.alloc _))).mono ?_
        rintro e w3 ⟨rfl, hg3⟩
        have d1 := cell_gr hg3 (new3 wr (.string { data := #[32, 116, 104, 111, 117] }) (.string { data := #[32, 105, 110] }) (.int .i64 1000) 48).2.1
        have d2 := cell_gr hg3 (new3 wr (.string { data := #[32, 116, 104, 111, 117] }) (.string { data := #[32, 105, 110] }) (.int .i64 1000) 48).2.2
        have G3 := Lib.hid ((GW.out.alloc _).trans hg3)
        clear hg3
        go_wp2_with fail
        refine (k5.out _ (HE2.out.gr G3.out)).mono ?_
        rintro e w4 ⟨rfl, hg4⟩
        have d3 := cell_gr hg4 d2
        have G4 := Lib.hid (G3.out.trans hg4)
        clear hg4
        go_wp2_with fail
        refine (k2.out _ (HE2.out.gr G4.out)).mono ?_
        rintro e w5 ⟨rfl, hg5⟩
        have G5 := Lib.hid (G4.out.trans hg5)
        clear hg5
        go_wp2_with fail
        refine (k3.out _ (HE2.out.gr G5.out)).mono ?_
        rintro e w6 ⟨rfl, hg6⟩
        have G6 := Lib.hid (G5.out.trans hg6)
        clear hg6
        go_wp2_with fail
        go_roundg 0
        case measure => omega
        case rel => exact ⟨3, by omega, by go_num, G6.out⟩
      · have k5 := Lib.hid k5; have k6 := Lib.hid k6; have k7 := Lib.hid k7; have k8 := Lib.hid k8; have k9 := Lib.hid k9
        clear k4
        go_wp2_with fail
        refine (k1.out _ (HE2.out.gr (GW.out.alloc _))).mono ?_
        rintro e w3 ⟨rfl, hg3⟩
        have d1 := cell_gr hg3 (new3 wr (.string { data := #[32, 116, 104, 111, 117] }) (.string { data := #[32, 105, 110] }) (.int .i64 1000) 48).2.1
        have d2 := cell_gr hg3 (new3 wr (.string { data := #[32, 116, 104, 111, 117] }) (.string { data := #[32, 105, 110] }) (.int .i64 1000) 48).2.2
        have G3 := Lib.hid ((GW.out.alloc _).trans hg3)
        clear hg3
        go_wp2_with fail
        refine (k5.out _ (HE2.out.gr G3.out)).mono ?_
        rintro e w4 ⟨rfl, hg4⟩
        have d3 := cell_gr hg4 d2
        have G4 := Lib.hid (G3.out.trans hg4)
        clear hg4
        go_wp2_with fail
        refine (k2.out _ (HE2.out.gr G4.out)).mono ?_
        rintro e w5 ⟨rfl, hg5⟩
        have G5 := Lib.hid (G4.out.trans hg5)
        clear hg5
        go_wp2_with fail
        refine (k3.out _ (HE2.out.gr G5.out)).mono ?_
        rintro e w6 ⟨rfl, hg6⟩
        have G6 := Lib.hid (G5.out.trans hg6)
        clear hg6
        go_wp2_with fail
        refine (k6.out _ (HE2.out.gr G6.out)).mono ?_
        rintro e w7 ⟨rfl, hg7⟩
        have G7 := Lib.hid (G6.out.trans hg7)
        clear hg7
        go_wp2_with fail
        refine (k8.out _ (HE2.out.gr G7.out)).mono ?_
        rintro e w8 ⟨rfl, hg8⟩
        have G8 := Lib.hid (G7.out.trans hg8)
        clear hg8
        go_wp2_with fail
        refine (k7.out _ (HE2.out.gr G8.out)).mono ?_
        rintro e w9 ⟨rfl, hg9⟩
        have G9 := Lib.hid (G8.out.trans hg9)
        clear hg9
        go_wp2_with fail
        refine (k9.out _ (HE2.out.gr G9.out)).mono ?_
        rintro e w10 ⟨rfl, hg10⟩
        have G10 := Lib.hid (G9.out.trans hg10)
        clear hg10
        rcases hdk with hd | hk
        · go_wp2_with fail
          go_roundg 0
          case measure => omega
          case rel => exact ⟨3, by omega, by go_num, G10.out⟩
        · by_cases hd : d < 0
          · go_wp2_with fail
            go_roundg 0
            case measure => omega
            case rel => exact ⟨3, by omega, by go_num, G10.out⟩
          · go_wp2_with fail
            go_roundg 0
            case measure => omega
            case rel => exact ⟨3, by omega, by go_num, G10.out⟩
    | j + 3, hj =>
      have hj0 : j = 0 := by omega
      subst hj0
      go_wp2_with fail
      refine (HA.out _ (HE.out.gr (GR.out.trans AS.out))).mono ?_
      rintro e w3 ⟨rfl, hg3⟩
      go_wp2_with fail
      go_ret
      exact ⟨rfl, (GR.out.trans AS.out).trans hg3⟩
set_option maxHeartbeats 8000000 in
set_option maxRecDepth 20000 in
theorem scales_neg (w : World) (he : Env w) (a b : Int) (A B : Nat) (X Y : ByteArray) (ha0 : 0 ≤ a) (ha1 : a ≤ 65535) (hb0 : 0 ≤ b) (hb1 : b ≤ 65535) (hA : a.tmod 100 = A) (hB : b.tmod 10000 = B) (hX : X.size ≤ 10) (hY : Y.size ≤ 10)
    (hIX : ∀ w, Env w → Calls Tryz.prog 34 #[.int .i64 A] w fun e w' => e = .returned (.string X) ∧ Gr w w')
    (hIY : ∀ w, Env w → Calls Tryz.prog 34 #[.int .i64 B] w fun e w' => e = .returned (.string Y) ∧ Gr w w')
    (h0 : ScR ({ data := #[45] } ++ (X ++ { data := #[46] } ++ Y)) { data := #[32, 109, 109] } { data := #[32, 99, 109] } 10) (h1 : ScR ({ data := #[45] } ++ (X ++ { data := #[46] } ++ Y)) { data := #[32, 117, 109] } { data := #[32, 109, 109] } 1000) (h2 : ScR ({ data := #[45] } ++ (X ++ { data := #[46] } ++ Y)) { data := #[32, 116, 104, 111, 117] } { data := #[32, 105, 110] } 1000) :
    Calls Tryz.prog 7 #[.int .u16 a, .int .u16 b, .bool true] w fun e w' => e = .returned (.bool true) ∧ Gr w w' := by
  have HA := Lib.hid (fun w he => awake13_c w he)
  have HE := Lib.hid he
  have HX := Lib.hid hIX; have HY := Lib.hid hIY; have K0 := Lib.hid h0; have K1 := Lib.hid h1; have K2 := Lib.hid h2
  clear he hIX hIY h0 h1 h2
  go_enter Tryz.func7, Tryz.ntmps7
  go_wp2_with fail
  refine (HX.out _ HE.out).mono ?_
  rintro e w1 ⟨rfl, hg1⟩
  go_wp2_with fail
  refine (HY.out _ (HE.out.gr hg1)).mono ?_
  rintro e w2 ⟨rfl, hg2⟩
  have G2 := Lib.hid (hg1.trans hg2)
  clear hg1 hg2
  go_wp2_with fail
  have GR := Lib.hid (G2.out.alloc (.cells scRow 48))
  have CR := Lib.hid (scRow_cell w2 48)
  have HE2 := Lib.hid (HE.out.gr GR.out)
  go_loopg [38] 3 (fun k i wr => ∃ j : Nat, k + j = 3 ∧ i = .int .i64 j ∧ Aside (Gr (w2.alloc (.cells scRow 48)) wr))
  case atStart => exact ⟨0, rfl, rfl, Gr.refl _⟩
  case round =>
    obtain ⟨j, hj, rfl, AS⟩ := hrel
    match j, hj with
    | 0, hj =>
      have c0 : wr.cell? ⟨w2.heap.size, 0, none⟩ = some (.string { data := #[32, 109, 109] }) := cell_gr AS.out ((CR.out 0).trans rfl)
      have c1 : wr.cell? ⟨w2.heap.size, 1, none⟩ = some (.string { data := #[32, 99, 109] }) := cell_gr AS.out ((CR.out 1).trans rfl)
      have c2 : wr.cell? ⟨w2.heap.size, 2, none⟩ = some (.int .i64 10) := cell_gr AS.out ((CR.out 2).trans rfl)
      have GW := Lib.hid AS.out
      obtain ⟨P, N, C, k1, k2, k3, k4⟩ := K0.out
      have k1 := Lib.hid k1; have k2 := Lib.hid k2; have k3 := Lib.hid k3; have k4 := Lib.hid k4
      rcases k4.out with k5 | ⟨M1, M2, d, k, hdk, k5, k6, k7, k8, k9⟩
      · have k5 := Lib.hid k5
        clear k4
        go_wp2_with fail
        refine (k1.out _ (HE2.out.gr (GW.out.alloc _))).mono ?_
        rintro e w3 ⟨rfl, hg3⟩
        have d1 := cell_gr hg3 (new3 wr (.string { data := #[32, 109, 109] }) (.string { data := #[32, 99, 109] }) (.int .i64 10) 48).2.1
        have d2 := cell_gr hg3 (new3 wr (.string { data := #[32, 109, 109] }) (.string { data := #[32, 99, 109] }) (.int .i64 10) 48).2.2
        have G3 := Lib.hid ((GW.out.alloc _).trans hg3)
        clear hg3
        go_wp2_with fail
        refine (k5.out _ (HE2.out.gr G3.out)).mono ?_
        rintro e w4 ⟨rfl, hg4⟩
        have d3 := cell_gr hg4 d2
        have G4 := Lib.hid (G3.out.trans hg4)
        clear hg4
        go_wp2_with fail
        refine (k2.out _ (HE2.out.gr G4.out)).mono ?_
        rintro e w5 ⟨rfl, hg5⟩
        have G5 := Lib.hid (G4.out.trans hg5)
        clear hg5
        go_wp2_with fail
        refine (k3.out _ (HE2.out.gr G5.out)).mono ?_
        rintro e w6 ⟨rfl, hg6⟩
        have G6 := Lib.hid (G5.out.trans hg6)
        clear hg6
        go_wp2_with fail
        go_roundg 2
        case measure => omega
        case rel => exact ⟨1, by omega, by go_num, G6.out⟩
      · have k5 := Lib.hid k5; have k6 := Lib.hid k6; have k7 := Lib.hid k7; have k8 := Lib.hid k8; have k9 := Lib.hid k9
        clear k4
        go_wp2_with fail
        refine (k1.out _ (HE2.out.gr (GW.out.alloc _))).mono ?_
        rintro e w3 ⟨rfl, hg3⟩
        have d1 := cell_gr hg3 (new3 wr (.string { data := #[32, 109, 109] }) (.string { data := #[32, 99, 109] }) (.int .i64 10) 48).2.1
        have d2 := cell_gr hg3 (new3 wr (.string { data := #[32, 109, 109] }) (.string { data := #[32, 99, 109] }) (.int .i64 10) 48).2.2
        have G3 := Lib.hid ((GW.out.alloc _).trans hg3)
        clear hg3
        go_wp2_with fail
        refine (k5.out _ (HE2.out.gr G3.out)).mono ?_
        rintro e w4 ⟨rfl, hg4⟩
        have d3 := cell_gr hg4 d2
        have G4 := Lib.hid (G3.out.trans hg4)
        clear hg4
        go_wp2_with fail
        refine (k2.out _ (HE2.out.gr G4.out)).mono ?_
        rintro e w5 ⟨rfl, hg5⟩
        have G5 := Lib.hid (G4.out.trans hg5)
        clear hg5
        go_wp2_with fail
        refine (k3.out _ (HE2.out.gr G5.out)).mono ?_
        rintro e w6 ⟨rfl, hg6⟩
        have G6 := Lib.hid (G5.out.trans hg6)
        clear hg6
        go_wp2_with fail
        refine (k6.out _ (HE2.out.gr G6.out)).mono ?_
        rintro e w7 ⟨rfl, hg7⟩
        have G7 := Lib.hid (G6.out.trans hg7)
        clear hg7
        go_wp2_with fail
        refine (k8.out _ (HE2.out.gr G7.out)).mono ?_
        rintro e w8 ⟨rfl, hg8⟩
        have G8 := Lib.hid (G7.out.trans hg8)
        clear hg8
        go_wp2_with fail
        refine (k7.out _ (HE2.out.gr G8.out)).mono ?_
        rintro e w9 ⟨rfl, hg9⟩
        have G9 := Lib.hid (G8.out.trans hg9)
        clear hg9
        go_wp2_with fail
        refine (k9.out _ (HE2.out.gr G9.out)).mono ?_
        rintro e w10 ⟨rfl, hg10⟩
        have G10 := Lib.hid (G9.out.trans hg10)
        clear hg10
        rcases hdk with hd | hk
        · go_wp2_with fail
          go_roundg 2
          case measure => omega
          case rel => exact ⟨1, by omega, by go_num, G10.out⟩
        · by_cases hd : d < 0
          · go_wp2_with fail
            go_roundg 2
            case measure => omega
            case rel => exact ⟨1, by omega, by go_num, G10.out⟩
          · go_wp2_with fail
            go_roundg 2
            case measure => omega
            case rel => exact ⟨1, by omega, by go_num, G10.out⟩
    | 1, hj =>
      have c0 : wr.cell? ⟨w2.heap.size, 3, none⟩ = some (.string { data := #[32, 117, 109] }) := cell_gr AS.out ((CR.out 3).trans rfl)
      have c1 : wr.cell? ⟨w2.heap.size, 4, none⟩ = some (.string { data := #[32, 109, 109] }) := cell_gr AS.out ((CR.out 4).trans rfl)
      have c2 : wr.cell? ⟨w2.heap.size, 5, none⟩ = some (.int .i64 1000) := cell_gr AS.out ((CR.out 5).trans rfl)
      have GW := Lib.hid AS.out
      obtain ⟨P, N, C, k1, k2, k3, k4⟩ := K1.out
      have k1 := Lib.hid k1; have k2 := Lib.hid k2; have k3 := Lib.hid k3; have k4 := Lib.hid k4
      rcases k4.out with k5 | ⟨M1, M2, d, k, hdk, k5, k6, k7, k8, k9⟩
      · have k5 := Lib.hid k5
        clear k4
        go_wp2_with fail
        refine (k1.out _ (HE2.out.gr (GW.out.alloc _))).mono ?_
        rintro e w3 ⟨rfl, hg3⟩
        have d1 := cell_gr hg3 (new3 wr (.string { data := #[32, 117, 109] }) (.string { data := #[32, 109, 109] }) (.int .i64 1000) 48).2.1
        have d2 := cell_gr hg3 (new3 wr (.string { data := #[32, 117, 109] }) (.string { data := #[32, 109, 109] }) (.int .i64 1000) 48).2.2
        have G3 := Lib.hid ((GW.out.alloc _).trans hg3)
        clear hg3
        go_wp2_with fail
        refine (k5.out _ (HE2.out.gr G3.out)).mono ?_
        rintro e w4 ⟨rfl, hg4⟩
        have d3 := cell_gr hg4 d2
        have G4 := Lib.hid (G3.out.trans hg4)
        clear hg4
        go_wp2_with fail
        refine (k2.out _ (HE2.out.gr G4.out)).mono ?_
        rintro e w5 ⟨rfl, hg5⟩
        have G5 := Lib.hid (G4.out.trans hg5)
        clear hg5
        go_wp2_with fail
        refine (k3.out _ (HE2.out.gr G5.out)).mono ?_
        rintro e w6 ⟨rfl, hg6⟩
        have G6 := Lib.hid (G5.out.trans hg6)
        clear hg6
        go_wp2_with fail
        go_roundg 1
        case measure => omega
        case rel => exact ⟨2, by omega, by go_num, G6.out⟩
      · have k5 := Lib.hid k5; have k6 := Lib.hid k6; have k7 := Lib.hid k7; have k8 := Lib.hid k8; have k9 := Lib.hid k9
        clear k4
        go_wp2_with fail
        refine (k1.out _ (HE2.out.gr (GW.out.alloc _))).mono ?_
        rintro e w3 ⟨rfl, hg3⟩
        have d1 := cell_gr hg3 (new3 wr (.string { data := #[32, 117, 109] }) (.string { data := #[32, 109, 109] }) (.int .i64 1000) 48).2.1
        have d2 := cell_gr hg3 (new3 wr (.string { data := #[32, 117, 109] }) (.string { data := #[32, 109, 109] }) (.int .i64 1000) 48).2.2
        have G3 := Lib.hid ((GW.out.alloc _).trans hg3)
        clear hg3
        go_wp2_with fail
        refine (k5.out _ (HE2.out.gr G3.out)).mono ?_
        rintro e w4 ⟨rfl, hg4⟩
        have d3 := cell_gr hg4 d2
        have G4 := Lib.hid (G3.out.trans hg4)
        clear hg4
        go_wp2_with fail
        refine (k2.out _ (HE2.out.gr G4.out)).mono ?_
        rintro e w5 ⟨rfl, hg5⟩
        have G5 := Lib.hid (G4.out.trans hg5)
        clear hg5
        go_wp2_with fail
        refine (k3.out _ (HE2.out.gr G5.out)).mono ?_
        rintro e w6 ⟨rfl, hg6⟩
        have G6 := Lib.hid (G5.out.trans hg6)
        clear hg6
        go_wp2_with fail
        refine (k6.out _ (HE2.out.gr G6.out)).mono ?_
        rintro e w7 ⟨rfl, hg7⟩
        have G7 := Lib.hid (G6.out.trans hg7)
        clear hg7
        go_wp2_with fail
        refine (k8.out _ (HE2.out.gr G7.out)).mono ?_
        rintro e w8 ⟨rfl, hg8⟩
        have G8 := Lib.hid (G7.out.trans hg8)
        clear hg8
        go_wp2_with fail
        refine (k7.out _ (HE2.out.gr G8.out)).mono ?_
        rintro e w9 ⟨rfl, hg9⟩
        have G9 := Lib.hid (G8.out.trans hg9)
        clear hg9
        go_wp2_with fail
        refine (k9.out _ (HE2.out.gr G9.out)).mono ?_
        rintro e w10 ⟨rfl, hg10⟩
        have G10 := Lib.hid (G9.out.trans hg10)
        clear hg10
        rcases hdk with hd | hk
        · go_wp2_with fail
          go_roundg 1
          case measure => omega
          case rel => exact ⟨2, by omega, by go_num, G10.out⟩
        · by_cases hd : d < 0
          · go_wp2_with fail
            go_roundg 1
            case measure => omega
            case rel => exact ⟨2, by omega, by go_num, G10.out⟩
          · go_wp2_with fail
            go_roundg 1
            case measure => omega
            case rel => exact ⟨2, by omega, by go_num, G10.out⟩
    | 2, hj =>
      have c0 : wr.cell? ⟨w2.heap.size, 6, none⟩ = some (.string { data := #[32, 116, 104, 111, 117] }) := cell_gr AS.out ((CR.out 6).trans rfl)
      have c1 : wr.cell? ⟨w2.heap.size, 7, none⟩ = some (.string { data := #[32, 105, 110] }) := cell_gr AS.out ((CR.out 7).trans rfl)
      have c2 : wr.cell? ⟨w2.heap.size, 8, none⟩ = some (.int .i64 1000) := cell_gr AS.out ((CR.out 8).trans rfl)
      have GW := Lib.hid AS.out
      obtain ⟨P, N, C, k1, k2, k3, k4⟩ := K2.out
      have k1 := Lib.hid k1; have k2 := Lib.hid k2; have k3 := Lib.hid k3; have k4 := Lib.hid k4
      rcases k4.out with k5 | ⟨M1, M2, d, k, hdk, k5, k6, k7, k8, k9⟩
      · have k5 := Lib.hid k5
        clear k4
        go_wp2_with fail
        refine (k1.out _ (HE2.out.gr (GW.out.alloc _))).mono ?_
        rintro e w3 ⟨rfl, hg3⟩
        have d1 := cell_gr hg3 (new3 wr (.string { data := #[32, 116, 104, 111, 117] }) (.string { data := #[32, 105, 110] }) (.int .i64 1000) 48).2.1
        have d2 := cell_gr hg3 (new3 wr (.string { data := #[32, 116, 104, 111, 117] }) (.string { data := #[32, 105, 110] }) (.int .i64 1000) 48).2.2
        have G3 := Lib.hid ((GW.out.alloc _).trans hg3)
        clear hg3
        go_wp2_with fail
        refine (k5.out _ (HE2.out.gr G3.out)).mono ?_
        rintro e w4 ⟨rfl, hg4⟩
        have d3 := cell_gr hg4 d2
        have G4 := Lib.hid (G3.out.trans hg4)
        clear hg4
        go_wp2_with fail
        refine (k2.out _ (HE2.out.gr G4.out)).mono ?_
        rintro e w5 ⟨rfl, hg5⟩
        have G5 := Lib.hid (G4.out.trans hg5)
        clear hg5
        go_wp2_with fail
        refine (k3.out _ (HE2.out.gr G5.out)).mono ?_
        rintro e w6 ⟨rfl, hg6⟩
        have G6 := Lib.hid (G5.out.trans hg6)
        clear hg6
        go_wp2_with fail
        go_roundg 0
        case measure => omega
        case rel => exact ⟨3, by omega, by go_num, G6.out⟩
      · have k5 := Lib.hid k5; have k6 := Lib.hid k6; have k7 := Lib.hid k7; have k8 := Lib.hid k8; have k9 := Lib.hid k9
        clear k4
        go_wp2_with fail
        refine (k1.out _ (HE2.out.gr (GW.out.alloc _))).mono ?_
        rintro e w3 ⟨rfl, hg3⟩
        have d1 := cell_gr hg3 (new3 wr (.string { data := #[32, 116, 104, 111, 117] }) (.string { data := #[32, 105, 110] }) (.int .i64 1000) 48).2.1
        have d2 := cell_gr hg3 (new3 wr (.string { data := #[32, 116, 104, 111, 117] }) (.string { data := #[32, 105, 110] }) (.int .i64 1000) 48).2.2
        have G3 := Lib.hid ((GW.out.alloc _).trans hg3)
        clear hg3
        go_wp2_with fail
        refine (k5.out _ (HE2.out.gr G3.out)).mono ?_
        rintro e w4 ⟨rfl, hg4⟩
        have d3 := cell_gr hg4 d2
        have G4 := Lib.hid (G3.out.trans hg4)
        clear hg4
        go_wp2_with fail
        refine (k2.out _ (HE2.out.gr G4.out)).mono ?_
        rintro e w5 ⟨rfl, hg5⟩
        have G5 := Lib.hid (G4.out.trans hg5)
        clear hg5
        go_wp2_with fail
        refine (k3.out _ (HE2.out.gr G5.out)).mono ?_
        rintro e w6 ⟨rfl, hg6⟩
        have G6 := Lib.hid (G5.out.trans hg6)
        clear hg6
        go_wp2_with fail
        refine (k6.out _ (HE2.out.gr G6.out)).mono ?_
        rintro e w7 ⟨rfl, hg7⟩
        have G7 := Lib.hid (G6.out.trans hg7)
        clear hg7
        go_wp2_with fail
        refine (k8.out _ (HE2.out.gr G7.out)).mono ?_
        rintro e w8 ⟨rfl, hg8⟩
        have G8 := Lib.hid (G7.out.trans hg8)
        clear hg8
        go_wp2_with fail
        refine (k7.out _ (HE2.out.gr G8.out)).mono ?_
        rintro e w9 ⟨rfl, hg9⟩
        have G9 := Lib.hid (G8.out.trans hg9)
        clear hg9
        go_wp2_with fail
        refine (k9.out _ (HE2.out.gr G9.out)).mono ?_
        rintro e w10 ⟨rfl, hg10⟩
        have G10 := Lib.hid (G9.out.trans hg10)
        clear hg10
        rcases hdk with hd | hk
        · go_wp2_with fail
          go_roundg 0
          case measure => omega
          case rel => exact ⟨3, by omega, by go_num, G10.out⟩
        · by_cases hd : d < 0
          · go_wp2_with fail
            go_roundg 0
            case measure => omega
            case rel => exact ⟨3, by omega, by go_num, G10.out⟩
          · go_wp2_with fail
            go_roundg 0
            case measure => omega
            case rel => exact ⟨3, by omega, by go_num, G10.out⟩
    | j + 3, hj =>
      have hj0 : j = 0 := by omega
      subst hj0
      go_wp2_with fail
      refine (HA.out _ (HE.out.gr (GR.out.trans AS.out))).mono ?_
      rintro e w3 ⟨rfl, hg3⟩
      go_wp2_with fail
      go_ret
      exact ⟨rfl, (GR.out.trans AS.out).trans hg3⟩
theorem itoa_text (n : Nat) : bs (itoa (n : Int)) = bs (decDigits n) := by rw [YtlmdpamehhcblaaGreatDoorD.itoa_nat]
theorem stext_bs (sg : Bool) (a b u : Nat) : (if sg then { data := #[45] } ++ (bs (decDigits a) ++ { data := #[46] } ++ bs (decDigits b)) else bs (decDigits a) ++ { data := #[46] } ++ bs (decDigits b)) ++ bs (32 :: uword u) = bs (stext sg a b ++ 32 :: uword u) := by
  have e : bs (decDigits a) ++ { data := #[46] } ++ bs (decDigits b) = bs (decDigits a ++ 46 :: decDigits b) := by
    show bs (decDigits a) ++ bs [46] ++ bs (decDigits b) = _
    rw [bs_append, bs_append, List.append_assoc]; rfl
  rw [e]
  unfold YtlmdpamehhcblaaGreatDoorD.stext
  cases sg with
  | true =>
    show bs [45] ++ bs _ ++ bs _ = _
    rw [bs_append, bs_append]; rfl
  | false =>
    show bs _ ++ bs _ = _
    rw [bs_append]; rfl
theorem Scales_c (w : World) (he : Env w) (a b : Int) (sg : Bool) (ha0 : 0 ≤ a) (ha1 : a ≤ 65535) (hb0 : 0 ≤ b) (hb1 : b ≤ 65535) :
    Calls Tryz.prog 7 #[.int .u16 a, .int .u16 b, .bool sg] w fun e w' => e = .returned (.bool true) ∧ Gr w w' := by
  obtain ⟨A, hA, hA2⟩ : ∃ A : Nat, a.tmod 100 = A ∧ A < 100 := by
    rw [Int.tmod_eq_emod_of_nonneg ha0]
    exact ⟨(a % 100).toNat, by omega, by omega⟩
  obtain ⟨B, hB, hB2⟩ : ∃ B : Nat, b.tmod 10000 = B ∧ B < 10000 := by
    rw [Int.tmod_eq_emod_of_nonneg hb0]
    exact ⟨(b % 10000).toNat, by omega, by omega⟩
  have l1 : (bs (decDigits A)).size ≤ 10 := by rw [bs_size]; have := YtlmdpamehhcblaaGreatDoorD.len6 (n := A) (by omega); omega
  have l2 : (bs (decDigits B)).size ≤ 10 := by rw [bs_size]; have := YtlmdpamehhcblaaGreatDoorD.len6 (n := B) (by omega); omega
  have i1 : ∀ w, Env w → Calls Tryz.prog 34 #[.int .i64 A] w fun e w' => e = .returned (.string (bs (decDigits A))) ∧ Gr w w' := fun w he => by
    have := Itoa_c w he A (by omega) (by omega)
    rwa [itoa_text] at this
  have i2 : ∀ w, Env w → Calls Tryz.prog 34 #[.int .i64 B] w fun e w' => e = .returned (.string (bs (decDigits B))) ∧ Gr w w' := fun w he => by
    have := Itoa_c w he B (by omega) (by omega)
    rwa [itoa_text] at this
  have s0 := stext_bs sg A B 0
  have s1 := stext_bs sg A B 1
  have s2 := stext_bs sg A B 2
  have s3 := stext_bs sg A B 3
  have s4 := stext_bs sg A B 4
  cases sg with
  | false => exact scales_pos w he a b A B _ _ ha0 ha1 hb0 hb1 hA hB l1 l2 i1 i2 (scR_of false 10 hA2 hB2 (u := 1) (v := 2) (by omega) (by omega) YtlmdpamehhcblaaGreatDoorD.times_u1 (by omega) (by omega) _ _ _ s1 s2) (scR_of false 1000 hA2 hB2 (u := 0) (v := 1) (by omega) (by omega) YtlmdpamehhcblaaGreatDoorD.times_u0 (by omega) (by omega) _ _ _ s0 s1) (scR_of false 1000 hA2 hB2 (u := 4) (v := 3) (by omega) (by omega) YtlmdpamehhcblaaGreatDoorD.times_u4 (by omega) (by omega) _ _ _ s4 s3)
  | true => exact scales_neg w he a b A B _ _ ha0 ha1 hb0 hb1 hA hB l1 l2 i1 i2 (scR_of true 10 hA2 hB2 (u := 1) (v := 2) (by omega) (by omega) YtlmdpamehhcblaaGreatDoorD.times_u1 (by omega) (by omega) _ _ _ s1 s2) (scR_of true 1000 hA2 hB2 (u := 0) (v := 1) (by omega) (by omega) YtlmdpamehhcblaaGreatDoorD.times_u0 (by omega) (by omega) _ _ _ s0 s1) (scR_of true 1000 hA2 hB2 (u := 4) (v := 3) (by omega) (by omega) YtlmdpamehhcblaaGreatDoorD.times_u4 (by omega) (by omega) _ _ _ s4 s3)
end Go.Proofs.YtlmdpamehhcblaaGreatDoor
