import Derived.Test.YtlmdpamehhcblaaGreatDoorUd
import Derived.Test.YtlmdpamehhcblaaGreatDoorUq
/- Contracts of package units: Format. -/
namespace Go.Proofs.YtlmdpamehhcblaaGreatDoor
open Go.RowKit
open Go.Lib (itoa decDigits)
open YtlmdpamehhcblaaGreatDoorD (rtext natural digs uword uval uidx isDig unum val ubeyond uexact Q usign usize uint uparse upad urest upointed uformat ubody udiv uplace)

/-- A text, or the number of the error. -/
def textV : Except Int (List UInt8) → Value
  | .ok l => .tuple #[.string (bs l), .int .i64 0]
  | .error e => .tuple #[.string (bs []), .int .i64 e]
theorem new3 (w : World) (a b c : Value) (t : TypeId) : (w.alloc (.cells #[a, b, c] t)).cell? ⟨w.heap.size, 0, none⟩ = some a ∧ (w.alloc (.cells #[a, b, c] t)).cell? ⟨w.heap.size, 1, none⟩ = some b ∧ (w.alloc (.cells #[a, b, c] t)).cell? ⟨w.heap.size, 2, none⟩ = some c := by
  have h : (w.alloc (.cells #[a, b, c] t)).heap[w.heap.size]? = some (.cells #[a, b, c] t) := heap_alloc_new w _
  refine ⟨?_, ?_, ?_⟩ <;> (unfold World.cell?; rw [h]; rfl)
theorem uword_len (u : Nat) : (uword u).length ≤ 4 := by
  match u with
  | 0 => decide
  | 1 => decide
  | 2 => decide
  | 3 => decide
  | 4 => decide
  | u + 5 => show ([] : List UInt8).length ≤ 4; decide
theorem uplace_bd (u : Nat) : -1 ≤ uplace u ∧ uplace u ≤ 4 := by
  match u with
  | 0 => decide
  | 1 => decide
  | 2 => decide
  | 3 => decide
  | 4 => decide
  | u + 5 => show -1 ≤ (0 : Int) ∧ (0 : Int) ≤ 4; decide
theorem upointed_len {n p : Nat} (h : n ≤ 1000000) (hp : p ≤ 4) : (upointed n p).length ≤ 20 := by
  have h1 := YtlmdpamehhcblaaGreatDoorD.upad_len h hp
  have h2 := YtlmdpamehhcblaaGreatDoorD.urest_len h hp
  unfold YtlmdpamehhcblaaGreatDoorD.upointed
  split
  · rw [List.length_take]; omega
  · rw [List.length_append, List.length_cons, List.length_take]; omega
theorem udiv_parts {m u : Nat} (h : m ≤ 100000) : (udiv m u).num.natAbs < 10 ^ 7 ∧ (udiv m u).den < 10 ^ 7 := by
  obtain ⟨v1, v2, v3⟩ := YtlmdpamehhcblaaGreatDoorD.uval_parts u
  have k := YtlmdpamehhcblaaGreatDoorD.mkRat_parts ((m : Int) * ((uval u).den : Int)) (1 * (uval u).num.natAbs) (by omega)
  unfold YtlmdpamehhcblaaGreatDoorD.udiv
  have e7 : (10 : Nat) ^ 7 = 10000000 := by decide
  rw [YtlmdpamehhcblaaGreatDoorD.abs_mul] at k
  have m1 := Nat.mul_le_mul h v2
  have e1 : (m : Int).natAbs = m := rfl
  have e2 : ((uval u).den : Int).natAbs = (uval u).den := rfl
  rw [e1, e2] at k
  omega
theorem q_udiv {m u : Nat} (h : m ≤ 100000) : Q (udiv m u) := by
  obtain ⟨a, b⟩ := udiv_parts (u := u) h
  exact YtlmdpamehhcblaaGreatDoorD.Q.of (k := 7) (by decide) a b
set_option maxHeartbeats 2000000 in
set_option maxRecDepth 20000 in
theorem format_pointed (w : World) (he : Env w) (um : Int) (m u p : Nat) (sg : List UInt8) (hm : m ≤ 100000) (hu : u < 5) (hs : (um = m ∧ sg = []) ∨ (um = -(m : Int) ∧ 0 < m ∧ sg = [45])) (hp : uplace u = p) :
    Calls Tryz.prog 29 #[.int .i64 um, .int .i64 (u : Nat)] w fun e w' => e = .returned (.tuple #[.string (bs sg ++ bs (upointed m p) ++ bs [32] ++ bs (uword u)), .int .i64 0]) ∧ Gr w w' := by
  have bp := uplace_bd u
  have hW := Lib.hid (fun w => by have := Word_c w (u : Int); rw [if_pos (by omega)] at this; exact this : ∀ w, Calls Tryz.prog 27 #[.int .i64 (u : Nat)] w fun e w' => e = .returned (.tuple #[.string (bs (uword u)), .int .i64 0]) ∧ Gr w w')
  have HR := Lib.hid (fun w => rows_c w)
  have RU := rows_atU u hu
  have hP := Lib.hid (fun w he => pointed_c w he m p (by omega) (by omega))
  have e0 : YtlmdpamehhcblaaGreatDoorD.uplaces.getD u 0 = (p : Int) := hp
  rw [e0] at RU
  have l1 := upointed_len (n := m) (p := p) (by omega) (by omega)
  have l2 := uword_len u
  rw [← bs_size] at l1 l2
  have HE := Lib.hid he
  have p0 : 0 ≤ (p : Int) := by omega
  clear bp e0 hp
  generalize bs (upointed m p) = t at *
  generalize bs (uword u) = wt at *
  generalize bs (rtext (uval u)) = vt at *
  have hm2 : (m : Int) ≤ 100000 := by omega
  have hu2 : (u : Int) < 5 := by omega
  rcases hs with ⟨rfl, rfl⟩ | ⟨rfl, h0, rfl⟩
  · have hs1 : (({ data := #[] } : ByteArray) ++ t).size ≤ 20 := by rw [ByteArray.size_append]; show 0 + t.size ≤ 20; omega
    have hs2 : (({ data := #[] } : ByteArray) ++ t ++ { data := #[32] }).size ≤ 21 := by rw [ByteArray.size_append]; show _ + 1 ≤ 21; omega
    go_enter Tryz.func29, Tryz.ntmps29
    go_wp2_with fail
    refine (hW.out _).mono ?_
    rintro e w1 ⟨rfl, hg1⟩
    go_wp2_with fail
    refine (HR.out _).mono ?_
    rintro e w2 ⟨rfl, hg2⟩
    have G2 := hg1.trans hg2
    clear hg1 hg2
    have N := new3 w2 (.string wt) (.string vt) (.int .i64 p) 108
    have c2 := N.2.2
    go_wp2_with fail
    refine (hP.out _ (HE.out.gr (G2.alloc _))).mono ?_
    rintro e w3 ⟨rfl, hg3⟩
    go_wp2_with fail
    go_ret2
    exact ⟨rfl, (G2.alloc _).trans hg3⟩
  · have hs1 : (({ data := #[45] } : ByteArray) ++ t).size ≤ 21 := by rw [ByteArray.size_append]; show 1 + t.size ≤ 21; omega
    have hs2 : (({ data := #[45] } : ByteArray) ++ t ++ { data := #[32] }).size ≤ 22 := by rw [ByteArray.size_append]; show _ + 1 ≤ 22; omega
    have h1 : 0 < (m : Int) := by omega
    go_enter Tryz.func29, Tryz.ntmps29
    go_wp2_with fail
    refine (hW.out _).mono ?_
    rintro e w1 ⟨rfl, hg1⟩
    go_wp2_with fail
    refine (HR.out _).mono ?_
    rintro e w2 ⟨rfl, hg2⟩
    have G2 := hg1.trans hg2
    clear hg1 hg2
    have N := new3 w2 (.string wt) (.string vt) (.int .i64 p) 108
    have c2 := N.2.2
    go_wp2_with fail
    refine (hP.out _ (HE.out.gr (G2.alloc _))).mono ?_
    rintro e w3 ⟨rfl, hg3⟩
    go_wp2_with fail
    go_ret2
    exact ⟨rfl, (G2.alloc _).trans hg3⟩
set_option maxHeartbeats 4000000 in
set_option maxRecDepth 20000 in
theorem format_div (w : World) (he : Env w) (um : Int) (m u : Nat) (sg : List UInt8) (hm : m ≤ 100000) (hu : u < 5) (hs : (um = m ∧ sg = []) ∨ (um = -(m : Int) ∧ 0 < m ∧ sg = [45])) (hp : uplace u < 0) :
    Calls Tryz.prog 29 #[.int .i64 um, .int .i64 (u : Nat)] w fun e w' => e = .returned (.tuple #[.string (bs sg ++ bs (rtext (udiv m u)) ++ bs [32] ++ bs (uword u)), .int .i64 0]) ∧ Gr w w' := by
  have bp := uplace_bd u
  have hW := Lib.hid (fun w => by have := Word_c w (u : Int); rw [if_pos (by omega)] at this; exact this : ∀ w, Calls Tryz.prog 27 #[.int .i64 (u : Nat)] w fun e w' => e = .returned (.tuple #[.string (bs (uword u)), .int .i64 0]) ∧ Gr w w')
  have HR := Lib.hid (fun w => rows_c w)
  have RU := rows_atU u hu
  have qv : Q (uval u) := by
    obtain ⟨v1, v2, _⟩ := YtlmdpamehhcblaaGreatDoorD.uval_parts u
    have e6 : (10 : Nat) ^ 6 = 1000000 := by decide
    exact YtlmdpamehhcblaaGreatDoorD.Q.of (k := 6) (by decide) (by omega) (by omega)
  have qm : Q ((m : Int) : Rat) := by
    have e6 : (10 : Nat) ^ 6 = 1000000 := by decide
    exact YtlmdpamehhcblaaGreatDoorD.Q.of (k := 6) (by decide) (by show m < _; omega) (by show 1 < _; omega)
  have hWh := Lib.hid (fun w he => RWhole_c w he (m : Int) (by omega) (by omega))
  have hDv := Lib.hid (fun w he => RDiv_c w he _ _ qm qv (YtlmdpamehhcblaaGreatDoorD.uval_parts u).2.2)
  have l1 := rtext_len (q_udiv (m := m) (u := u) hm)
  have l2 := uword_len u
  rw [← bs_size] at l1 l2
  have ed : mkRat (((m : Int) : Rat).num * ((uval u).den : Int)) (((m : Int) : Rat).den * (uval u).num.natAbs) = udiv m u := rfl
  rw [ed] at hDv
  have HE := Lib.hid he
  have e0 : YtlmdpamehhcblaaGreatDoorD.uplaces.getD u 0 = uplace u := rfl
  rw [e0] at RU
  unfold RetR at hWh
  unfold RetRQ at hDv
  clear e0 qv qm ed
  generalize bs (rtext ((m : Int) : Rat)) = mt at *
  generalize bs (rtext (udiv m u)) = t at *
  generalize bs (uword u) = wt at *
  generalize bs (rtext (uval u)) = vt at *
  generalize uplace u = pl at *
  have hm2 : (m : Int) ≤ 100000 := by omega
  have hu2 : (u : Int) < 5 := by omega
  rcases hs with ⟨rfl, rfl⟩ | ⟨rfl, h0, rfl⟩
  · have hs1 : (({ data := #[] } : ByteArray) ++ t).size ≤ 3000 := by rw [ByteArray.size_append]; show 0 + t.size ≤ 3000; omega
    have hs2 : (({ data := #[] } : ByteArray) ++ t ++ { data := #[32] }).size ≤ 3001 := by rw [ByteArray.size_append]; show _ + 1 ≤ 3001; omega
    go_enter Tryz.func29, Tryz.ntmps29
    go_wp2_with fail
    refine (hW.out _).mono ?_
    rintro e w1 ⟨rfl, hg1⟩
    go_wp2_with fail
    refine (HR.out _).mono ?_
    rintro e w2 ⟨rfl, hg2⟩
    have G2 := hg1.trans hg2
    clear hg1 hg2
    have N := new3 w2 (.string wt) (.string vt) (.int .i64 pl) 108
    have c2 := N.2.2
    have c1 := N.2.1
    have G3 := G2.alloc (.cells #[.string wt, .string vt, .int .i64 pl] 108)
    go_wp2_with fail
    go_region_held3 (fun w' => w'.cell? ⟨w2.heap.size, 1, none⟩ = some (.string vt))
      (first
        | exact c1
        | exact cell_gr hg5 c1
        | exact cell_gr (hg5.trans hg6) c1)
      ((first
        | (go_at_call 36; refine (hWh.out _ (HE.out.gr G3.drew)).mono ?_; rintro e w5 ⟨rfl, hg5⟩)
        | (go_at_call 89; refine (hDv.out _ ((HE.out.gr G3.drew).gr hg5)).mono ?_; rintro e w6 ⟨rfl, hg6⟩)))
    have G6 := (G3.drew.trans hg5).trans hg6
    go_wp2_with fail
    go_ret2
    exact ⟨rfl, G6⟩
  · have hs1 : (({ data := #[45] } : ByteArray) ++ t).size ≤ 3000 := by rw [ByteArray.size_append]; show 1 + t.size ≤ 3000; omega
    have hs2 : (({ data := #[45] } : ByteArray) ++ t ++ { data := #[32] }).size ≤ 3001 := by rw [ByteArray.size_append]; show _ + 1 ≤ 3001; omega
    have h1 : 0 < (m : Int) := by omega
    go_enter Tryz.func29, Tryz.ntmps29
    go_wp2_with fail
    refine (hW.out _).mono ?_
    rintro e w1 ⟨rfl, hg1⟩
    go_wp2_with fail
    refine (HR.out _).mono ?_
    rintro e w2 ⟨rfl, hg2⟩
    have G2 := hg1.trans hg2
    clear hg1 hg2
    have N := new3 w2 (.string wt) (.string vt) (.int .i64 pl) 108
    have c2 := N.2.2
    have c1 := N.2.1
    have G3 := G2.alloc (.cells #[.string wt, .string vt, .int .i64 pl] 108)
    go_wp2_with fail
    go_region_held3 (fun w' => w'.cell? ⟨w2.heap.size, 1, none⟩ = some (.string vt))
      (first
        | exact c1
        | exact cell_gr hg5 c1
        | exact cell_gr (hg5.trans hg6) c1)
      ((first
        | (go_at_call 36; refine (hWh.out _ (HE.out.gr G3.drew)).mono ?_; rintro e w5 ⟨rfl, hg5⟩)
        | (go_at_call 89; refine (hDv.out _ ((HE.out.gr G3.drew).gr hg5)).mono ?_; rintro e w6 ⟨rfl, hg6⟩)))
    have G6 := (G3.drew.trans hg5).trans hg6
    go_wp2_with fail
    go_ret2
    exact ⟨rfl, G6⟩
set_option maxHeartbeats 2000000 in
theorem format_far (w : World) (um unit : Int) (h : um < -100000 ∨ 100000 < um) : Calls Tryz.prog 29 #[.int .i64 um, .int .i64 unit] w fun e w' => e = .returned (.tuple #[.string (bs []), .int .i64 2]) ∧ Gr w w' := by
  rcases h with h | h
  · go_enter Tryz.func29, Tryz.ntmps29
    go_wp2_with fail
    go_ret2
    exact ⟨rfl, Gr.refl _⟩
  · have h2 : ¬ um < -100000 := by omega
    go_enter Tryz.func29, Tryz.ntmps29
    go_wp2_with fail
    go_ret2
    exact ⟨rfl, Gr.refl _⟩
set_option maxHeartbeats 2000000 in
theorem format_none (w : World) (um unit : Int) (h0 : -100000 ≤ um) (h1 : um ≤ 100000) (h : ¬ (0 ≤ unit ∧ unit < 5)) : Calls Tryz.prog 29 #[.int .i64 um, .int .i64 unit] w fun e w' => e = .returned (.tuple #[.string (bs []), .int .i64 20]) ∧ Gr w w' := by
  have hW := Lib.hid (fun w => by have := Word_c w unit; rw [if_neg h] at this; exact this : ∀ w, Calls Tryz.prog 27 #[.int .i64 unit] w fun e w' => e = .returned (.tuple #[.string (bs []), .int .i64 20]) ∧ Gr w w')
  clear h
  go_enter Tryz.func29, Tryz.ntmps29
  go_wp2_with fail
  refine (hW.out _).mono ?_
  rintro e w1 ⟨rfl, hg1⟩
  go_wp2_with fail
  go_ret2
  exact ⟨rfl, hg1⟩
theorem Format_c (w : World) (he : Env w) (um unit : Int) : Calls Tryz.prog 29 #[.int .i64 um, .int .i64 unit] w fun e w' => e = .returned (textV (uformat um unit)) ∧ Gr w w' := by
  unfold YtlmdpamehhcblaaGreatDoorD.uformat
  by_cases h : um < -100000 ∨ 100000 < um
  · rw [if_pos h]; exact format_far w um unit h
  · rw [if_neg h]
    by_cases hu : 0 ≤ unit ∧ unit < 5
    · rw [if_pos hu]
      obtain ⟨u, rfl⟩ := Int.eq_ofNat_of_zero_le hu.1
      have hu5 : u < 5 := by omega
      have hs : (um = (um.natAbs : Int) ∧ (if um < 0 then [45] else []) = ([] : List UInt8)) ∨ (um = -(um.natAbs : Int) ∧ 0 < um.natAbs ∧ (if um < 0 then [45] else []) = ([45] : List UInt8)) := by
        by_cases hn : um < 0
        · right; rw [if_pos hn]; exact ⟨by omega, by omega, rfl⟩
        · left; rw [if_neg hn]; exact ⟨by omega, rfl⟩
      show Calls _ _ _ w fun e w' => e = .returned (.tuple #[.string (bs ((if um < 0 then [45] else []) ++ ubody um.natAbs u ++ 32 :: uword u)), .int .i64 0]) ∧ Gr w w'
      generalize (if um < 0 then [45] else [] : List UInt8) = sg at *
      have e : bs (sg ++ ubody um.natAbs u ++ 32 :: uword u) = bs sg ++ bs (ubody um.natAbs u) ++ bs [32] ++ bs (uword u) := by
        rw [bs_append, bs_append, bs_append]; simp
      rw [e]
      unfold YtlmdpamehhcblaaGreatDoorD.ubody
      by_cases hp : 0 ≤ uplace u
      · rw [if_pos hp]
        exact format_pointed w he um um.natAbs u (uplace u).toNat sg (by omega) hu5 hs (by omega)
      · rw [if_neg hp]
        exact format_div w he um um.natAbs u sg (by omega) hu5 hs (by omega)
    · rw [if_neg hu]; exact format_none w um unit (by omega) (by omega) hu
end Go.Proofs.YtlmdpamehhcblaaGreatDoor
