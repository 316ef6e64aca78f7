import Derived.Test.YtlmdpamehhcblaaGreatDoorRh
import Derived.Test.YtlmdpamehhcblaaGreatDoorUn
/- Contracts of package units: rows, Unit, Word, digits, short. -/
namespace Go.Proofs.YtlmdpamehhcblaaGreatDoor
open Go.RowKit
open Go.Lib (itoa decDigits)
open YtlmdpamehhcblaaGreatDoorD (rtext natural digs uword uval uidx isDig)

def w0 : ByteArray := bs [117, 109]
def w1 : ByteArray := bs [109, 109]
def w2 : ByteArray := bs [99, 109]
def w3 : ByteArray := bs [105, 110]
def w4 : ByteArray := bs [116, 104, 111, 117]
def v0 : ByteArray := bs [49]
def v1 : ByteArray := bs [49, 48, 48, 48]
def v2 : ByteArray := bs [49, 48, 48, 48, 48]
def v3 : ByteArray := bs [50, 53, 52, 48, 48]
def v4 : ByteArray := bs [49, 50, 55, 47, 53]
set_option maxHeartbeats 1000000 in
theorem rows_c (w : World) : Calls Tryz.prog 78 #[] w fun e w' => e = .returned (.agg #[.string w0, .string v0, .int .i64 0, .string w1, .string v1, .int .i64 3, .string w2, .string v2, .int .i64 4, .string w3, .string v3, .int .i64 (-1), .string w4, .string v4, .int .i64 (-1)]) ∧ Gr w w' := by
  go_enter Tryz.func78, Tryz.ntmps78
  go_wp2_with fail
  refine bodyPost_ret (results_cell_row rfl _ _ _ 109 #[.string w0, .string v0, .int .i64 0, .string w1, .string v1, .int .i64 3, .string w2, .string v2, .int .i64 4, .string w3, .string v3, .int .i64 (-1), .string w4, .string v4, .int .i64 (-1)] (0, 0) _ rfl (heap_alloc_new w _) Tryz.underlying109 rfl (by kernel_rfl)) rfl ?_
  exact ⟨rfl, (Gr.refl _).alloc _⟩
theorem rows_at0 (x0 x1 x2 x3 x4 : ByteArray) (w : World) : (Instr.index 109 (.agg #[.string x0, .string v0, .int .i64 0, .string x1, .string v1, .int .i64 3, .string x2, .string v2, .int .i64 4, .string x3, .string v3, .int .i64 (-1), .string x4, .string v4, .int .i64 (-1)]) (.int .i64 0)).run Tryz.prog w = .ok (.agg #[.string x0, .string v0, .int .i64 0]) w := by
  simp [Instr.index, run_underlying Tryz.underlying109, asIntOf, go_sem]
theorem rows_at1 (x0 x1 x2 x3 x4 : ByteArray) (w : World) : (Instr.index 109 (.agg #[.string x0, .string v0, .int .i64 0, .string x1, .string v1, .int .i64 3, .string x2, .string v2, .int .i64 4, .string x3, .string v3, .int .i64 (-1), .string x4, .string v4, .int .i64 (-1)]) (.int .i64 1)).run Tryz.prog w = .ok (.agg #[.string x1, .string v1, .int .i64 3]) w := by
  simp [Instr.index, run_underlying Tryz.underlying109, asIntOf, go_sem]
theorem rows_at2 (x0 x1 x2 x3 x4 : ByteArray) (w : World) : (Instr.index 109 (.agg #[.string x0, .string v0, .int .i64 0, .string x1, .string v1, .int .i64 3, .string x2, .string v2, .int .i64 4, .string x3, .string v3, .int .i64 (-1), .string x4, .string v4, .int .i64 (-1)]) (.int .i64 2)).run Tryz.prog w = .ok (.agg #[.string x2, .string v2, .int .i64 4]) w := by
  simp [Instr.index, run_underlying Tryz.underlying109, asIntOf, go_sem]
theorem rows_at3 (x0 x1 x2 x3 x4 : ByteArray) (w : World) : (Instr.index 109 (.agg #[.string x0, .string v0, .int .i64 0, .string x1, .string v1, .int .i64 3, .string x2, .string v2, .int .i64 4, .string x3, .string v3, .int .i64 (-1), .string x4, .string v4, .int .i64 (-1)]) (.int .i64 3)).run Tryz.prog w = .ok (.agg #[.string x3, .string v3, .int .i64 (-1)]) w := by
  simp [Instr.index, run_underlying Tryz.underlying109, asIntOf, go_sem]
theorem rows_at4 (x0 x1 x2 x3 x4 : ByteArray) (w : World) : (Instr.index 109 (.agg #[.string x0, .string v0, .int .i64 0, .string x1, .string v1, .int .i64 3, .string x2, .string v2, .int .i64 4, .string x3, .string v3, .int .i64 (-1), .string x4, .string v4, .int .i64 (-1)]) (.int .i64 4)).run Tryz.prog w = .ok (.agg #[.string x4, .string v4, .int .i64 (-1)]) w := by
  simp [Instr.index, run_underlying Tryz.underlying109, asIntOf, go_sem]
theorem field0 (a b c : Value) (w : World) : (Instr.field 108 (.agg #[a, b, c]) 0).run Tryz.prog w = .ok a w := by
  simp [Instr.field, asAgg, run_underlying Tryz.underlying108, go_sem]
theorem field1 (a b c : Value) (w : World) : (Instr.field 108 (.agg #[a, b, c]) 1).run Tryz.prog w = .ok b w := by
  simp [Instr.field, asAgg, run_underlying Tryz.underlying108, go_sem]
theorem beq_bs (l m : List UInt8) : ((bs l).toList == (bs m).toList) = decide (l = m) := by rw [bs_toList, bs_toList, Bool.eq_iff_iff, beq_iff_eq, decide_eq_true_iff]
/-- What units.Unit answers. -/
def unitV : Option Nat → Value
  | some u => .tuple #[.int .i64 (u : Nat), .int .i64 0]
  | none => .tuple #[.int .i64 0, .int .i64 20]
def RetUnit (w : List UInt8) (w0 : World) (e : Ending) (w' : World) : Prop :=
  e = .returned (unitV (uidx w)) ∧ Gr w0 w'
set_option maxHeartbeats 2000000 in
set_option maxRecDepth 20000 in
theorem Unit_c (w : World) (s : List UInt8) : Calls Tryz.prog 25 #[.string (bs s)] w (RetUnit s w) := by
  have HR := Lib.hid (rows_c w)
  unfold RetUnit
  go_enter Tryz.func25, Tryz.ntmps25
  go_wp2_with fail
  refine HR.out.mono ?_
  rintro e w1 ⟨rfl, hg⟩
  go_wp2_with fail
  have W0 := beq_bs (uword 0) s
  have W1 := beq_bs (uword 1) s
  have W2 := beq_bs (uword 2) s
  have W3 := beq_bs (uword 3) s
  have W4 := beq_bs (uword 4) s
  change (YtlmdpamehhcblaaGreatDoor.w0.toList == _) = _ at W0
  change (YtlmdpamehhcblaaGreatDoor.w1.toList == _) = _ at W1
  change (YtlmdpamehhcblaaGreatDoor.w2.toList == _) = _ at W2
  change (YtlmdpamehhcblaaGreatDoor.w3.toList == _) = _ at W3
  change (YtlmdpamehhcblaaGreatDoor.w4.toList == _) = _ at W4
  generalize YtlmdpamehhcblaaGreatDoor.w0 = x0 at *
  generalize YtlmdpamehhcblaaGreatDoor.w1 = x1 at *
  generalize YtlmdpamehhcblaaGreatDoor.w2 = x2 at *
  generalize YtlmdpamehhcblaaGreatDoor.w3 = x3 at *
  generalize YtlmdpamehhcblaaGreatDoor.w4 = x4 at *
  go_loopg [7] 5 (fun k i wr => ∃ j : Nat, k + j = 5 ∧ i = .int .i64 j ∧ (∀ m, m < j → uword m ≠ s) ∧ Aside (Gr w wr))
  case atStart => exact ⟨0, rfl, rfl, fun m hm => absurd hm (by omega), hg⟩
  case round =>
    obtain ⟨j, hj, rfl, hne, A⟩ := hrel
    match j, hj with
    | 0, hj =>
      by_cases h : uword 0 = s
      · rw [decide_eq_true h] at W0
        have hsome : uidx s = some 0 := by rw [← h]; exact YtlmdpamehhcblaaGreatDoorD.uidx_word (by omega)
        go_wp2_with fail
        rw [rows_at0]
        go_wp2_with fail
        go_ret2
        exact ⟨by rw [hsome]; rfl, A.out.alloc _⟩
      · rw [decide_eq_false h] at W0
        go_wp2_with fail
        rw [rows_at0]
        go_wp2_with fail
        go_roundg 4
        case measure => omega
        case rel => exact ⟨1, by omega, by go_num, fun m hm => (Nat.lt_succ_iff_lt_or_eq.1 hm).elim (hne m) (fun e => by rw [e]; exact h), A.out.alloc _⟩
    | 1, hj =>
      by_cases h : uword 1 = s
      · rw [decide_eq_true h] at W1
        have hsome : uidx s = some 1 := by rw [← h]; exact YtlmdpamehhcblaaGreatDoorD.uidx_word (by omega)
        go_wp2_with fail
        rw [rows_at1]
        go_wp2_with fail
        go_ret2
        exact ⟨by rw [hsome]; rfl, A.out.alloc _⟩
      · rw [decide_eq_false h] at W1
        go_wp2_with fail
        rw [rows_at1]
        go_wp2_with fail
        go_roundg 3
        case measure => omega
        case rel => exact ⟨2, by omega, by go_num, fun m hm => (Nat.lt_succ_iff_lt_or_eq.1 hm).elim (hne m) (fun e => by rw [e]; exact h), A.out.alloc _⟩
    | 2, hj =>
      by_cases h : uword 2 = s
      · rw [decide_eq_true h] at W2
        have hsome : uidx s = some 2 := by rw [← h]; exact YtlmdpamehhcblaaGreatDoorD.uidx_word (by omega)
        go_wp2_with fail
        rw [rows_at2]
        go_wp2_with fail
        go_ret2
        exact ⟨by rw [hsome]; rfl, A.out.alloc _⟩
      · rw [decide_eq_false h] at W2
        go_wp2_with fail
        rw [rows_at2]
        go_wp2_with fail
        go_roundg 2
        case measure => omega
        case rel => exact ⟨3, by omega, by go_num, fun m hm => (Nat.lt_succ_iff_lt_or_eq.1 hm).elim (hne m) (fun e => by rw [e]; exact h), A.out.alloc _⟩
    | 3, hj =>
      by_cases h : uword 3 = s
      · rw [decide_eq_true h] at W3
        have hsome : uidx s = some 3 := by rw [← h]; exact YtlmdpamehhcblaaGreatDoorD.uidx_word (by omega)
        go_wp2_with fail
        rw [rows_at3]
        go_wp2_with fail
        go_ret2
        exact ⟨by rw [hsome]; rfl, A.out.alloc _⟩
      · rw [decide_eq_false h] at W3
        go_wp2_with fail
        rw [rows_at3]
        go_wp2_with fail
        go_roundg 1
        case measure => omega
        case rel => exact ⟨4, by omega, by go_num, fun m hm => (Nat.lt_succ_iff_lt_or_eq.1 hm).elim (hne m) (fun e => by rw [e]; exact h), A.out.alloc _⟩
    | 4, hj =>
      by_cases h : uword 4 = s
      · rw [decide_eq_true h] at W4
        have hsome : uidx s = some 4 := by rw [← h]; exact YtlmdpamehhcblaaGreatDoorD.uidx_word (by omega)
        go_wp2_with fail
        rw [rows_at4]
        go_wp2_with fail
        go_ret2
        exact ⟨by rw [hsome]; rfl, A.out.alloc _⟩
      · rw [decide_eq_false h] at W4
        go_wp2_with fail
        rw [rows_at4]
        go_wp2_with fail
        go_roundg 0
        case measure => omega
        case rel => exact ⟨5, by omega, by go_num, fun m hm => (Nat.lt_succ_iff_lt_or_eq.1 hm).elim (hne m) (fun e => by rw [e]; exact h), A.out.alloc _⟩
    | j + 5, hj =>
      have hj0 : j = 0 := by omega
      subst hj0
      have hno : uidx s = none := by
        unfold YtlmdpamehhcblaaGreatDoorD.uidx
        rw [if_neg (fun e => hne 0 (by omega) e.symm), if_neg (fun e => hne 1 (by omega) e.symm), if_neg (fun e => hne 2 (by omega) e.symm), if_neg (fun e => hne 3 (by omega) e.symm), if_neg (fun e => hne 4 (by omega) e.symm)]
      go_wp2_with fail
      go_ret2
      exact ⟨by rw [hno]; rfl, A.out⟩
set_option maxHeartbeats 2000000 in
set_option maxRecDepth 20000 in
theorem Word_c (w : World) (u : Int) : Calls Tryz.prog 27 #[.int .i64 u] w fun e w' => e = .returned (if 0 ≤ u ∧ u < 5 then .tuple #[.string (bs (uword u.toNat)), .int .i64 0] else .tuple #[.string (bs []), .int .i64 20]) ∧ Gr w w' := by
  have HR := Lib.hid (rows_c w)
  by_cases h : 0 ≤ u ∧ u < 5
  · rw [if_pos h]
    have hu : u = 0 ∨ u = 1 ∨ u = 2 ∨ u = 3 ∨ u = 4 := by omega
    clear h
    rcases hu with rfl | rfl | rfl | rfl | rfl
    · go_enter Tryz.func27, Tryz.ntmps27
      go_wp2_with fail
      refine HR.out.mono ?_
      rintro e w1 ⟨rfl, hg⟩
      go_wp2_with fail
      rw [rows_at0]
      go_wp2_with fail
      rw [field0]
      go_wp2_with fail
      go_ret2
      exact ⟨rfl, hg⟩
    · go_enter Tryz.func27, Tryz.ntmps27
      go_wp2_with fail
      refine HR.out.mono ?_
      rintro e w1 ⟨rfl, hg⟩
      go_wp2_with fail
      rw [rows_at1]
      go_wp2_with fail
      rw [field0]
      go_wp2_with fail
      go_ret2
      exact ⟨rfl, hg⟩
    · go_enter Tryz.func27, Tryz.ntmps27
      go_wp2_with fail
      refine HR.out.mono ?_
      rintro e w1 ⟨rfl, hg⟩
      go_wp2_with fail
      rw [rows_at2]
      go_wp2_with fail
      rw [field0]
      go_wp2_with fail
      go_ret2
      exact ⟨rfl, hg⟩
    · go_enter Tryz.func27, Tryz.ntmps27
      go_wp2_with fail
      refine HR.out.mono ?_
      rintro e w1 ⟨rfl, hg⟩
      go_wp2_with fail
      rw [rows_at3]
      go_wp2_with fail
      rw [field0]
      go_wp2_with fail
      go_ret2
      exact ⟨rfl, hg⟩
    · go_enter Tryz.func27, Tryz.ntmps27
      go_wp2_with fail
      refine HR.out.mono ?_
      rintro e w1 ⟨rfl, hg⟩
      go_wp2_with fail
      rw [rows_at4]
      go_wp2_with fail
      rw [field0]
      go_wp2_with fail
      go_ret2
      exact ⟨rfl, hg⟩
  · rw [if_neg h]
    rcases (show u < 0 ∨ 5 ≤ u by omega) with h1 | h1
    all_goals (
      clear h
      go_enter Tryz.func27, Tryz.ntmps27
      go_wp2_with fail
      go_ret2
      exact ⟨rfl, Gr.refl _⟩)
/-- What units.digits answers. -/
def udig (s : List UInt8) (n : Bool) : Bool := if n then natural s else digs s
theorem get48 : ∀ (l : List UInt8) (h : 0 < (bs l).size), (((bs l)[0].toNat : Int) != 48) = (l.head? != some 48) := fun l h => by
  have := get0_48 l h
  rw [bne, this]; rfl
set_option maxHeartbeats 2000000 in
theorem digits_c (w : World) (s : List UInt8) (n : Bool) (hs : s.length ≤ 9223372036854775807) :
    Calls Tryz.prog 163 #[.string (bs s), .bool n] w fun e w' => e = .returned (.bool (udig s n)) ∧ Gr w w' := by
  by_cases h0 : s = []
  · subst h0
    have e : udig [] n = false := by cases n <;> rfl
    rw [e]
    have h1 : (bs ([] : List UInt8)).toList = [] := bs_toList _
    go_enter Tryz.func163, Tryz.ntmps163
    go_wp2_with fail
    go_ret
    exact ⟨rfl, Gr.refl _⟩
  · have hne : (bs s).toList.isEmpty = false := by rw [bs_toList]; simpa using h0
    have hsz := bs_size s
    have hlen : 0 < s.length := List.length_pos_iff.2 h0
    have hTr := Lib.hid (Trim_c w s [48, 49, 50, 51, 52, 53, 54, 55, 56, 57] (by omega) (by decide) (by decide))
    by_cases h1 : s.all isDig = true
    · have h3 := (trim_digits s).2 h1
      rw [h3] at hTr
      have hz : 0 < (bs s).size := by omega
      have h5 := get48 s hz
      have hemp : (bs ([] : List UInt8)).toList.isEmpty = true := by rw [bs_toList]; rfl
      have hud : udig s n = (!n || (decide (s.length = 1) || s.head? != some 48)) := by
        unfold udig YtlmdpamehhcblaaGreatDoorD.natural YtlmdpamehhcblaaGreatDoorD.digs
        have e0 : s.isEmpty = false := by simpa using h0
        have e1 : (s.length == 1) = decide (s.length = 1) := by rw [Bool.eq_iff_iff]; simp
        rw [h1, e0, e1]
        cases n <;> rfl
      rw [hud]
      clear hud h1 h3 h0 hs
      by_cases hl : s.length = 1
      · have hsz1 : (bs s).size = 1 := by omega
        clear hsz
        rw [decide_eq_true hl]
        cases n
        all_goals (
          cases hh : (s.head? != some 48) <;> rw [hh] at h5 <;> clear hh
          all_goals (
            go_enter Tryz.func163, Tryz.ntmps163
            go_wp2_with fail
            refine hTr.out.mono ?_
            rintro e w1 ⟨rfl, hg⟩
            go_wp2_with fail
            go_ret
            exact ⟨rfl, hg⟩))
      · have hsz1 : ¬ (bs s).size = 1 := by omega
        have hsz2 : 0 < (bs s).size := by omega
        have hb1 : (((bs s).size : Int) == 1) = false := by rw [beq_eq_false_iff_ne]; omega
        clear hsz
        rw [decide_eq_false hl]
        cases n
        all_goals (
          cases hh : (s.head? != some 48) <;> rw [hh] at h5 <;> clear hh
          all_goals (
            go_enter Tryz.func163, Tryz.ntmps163
            go_wp2_with fail
            refine hTr.out.mono ?_
            rintro e w1 ⟨rfl, hg⟩
            go_wp2_with fail
            go_ret
            first | exact ⟨rfl, hg⟩ | exact ⟨by show Ending.returned (.bool _) = _; rw [hb1]; rfl, hg⟩))
    · have h3 : Lib.trimS s [48, 49, 50, 51, 52, 53, 54, 55, 56, 57] ≠ [] := fun x => h1 ((trim_digits _).1 x)
      have e : udig s n = false := by
        unfold udig YtlmdpamehhcblaaGreatDoorD.natural YtlmdpamehhcblaaGreatDoorD.digs
        have h1' : s.all isDig = false := by simpa using h1
        rw [h1']
        cases n <;> simp
      rw [e]
      generalize Lib.trimS s [48, 49, 50, 51, 52, 53, 54, 55, 56, 57] = r at *
      have hemp : (bs r).toList.isEmpty = false := by rw [bs_toList]; simpa using h3
      clear e h1 h3 h0 hsz
      go_enter Tryz.func163, Tryz.ntmps163
      go_wp2_with fail
      refine hTr.out.mono ?_
      rintro e w1 ⟨rfl, hg⟩
      go_wp2_with fail
      go_ret
      exact ⟨rfl, hg⟩
set_option maxHeartbeats 2000000 in
theorem short_c (w : World) (g : Nat) (a b : List UInt8) (h0 : w.cell? ⟨g, 0, none⟩ = some (.string (bs a))) (h1 : w.cell? ⟨g, 1, none⟩ = some (.string (bs b))) (ha : a.length ≤ 9223372036854775807) (hb : b.length ≤ 9223372036854775807) :
    Calls Tryz.prog 164 #[.slice (some ⟨g, 0, none⟩) 2 2] w fun e w' => e = .returned (.int .i64 (if 6 < a.length ∨ 6 < b.length then 11 else 0)) ∧ Gr w w' := by
  rw [← bs_size] at ha hb
  have e : (if 6 < a.length ∨ 6 < b.length then (11 : Int) else 0) = if 6 < (bs a).size ∨ 6 < (bs b).size then (11 : Int) else 0 := by rw [bs_size, bs_size]
  rw [e]
  clear e
  generalize bs a = a at *
  generalize bs b = b at *
  by_cases h : 6 < a.size
  · rw [if_pos (.inl h)]
    go_enter Tryz.func164, Tryz.ntmps164
    go_wp2_with fail
    go_loopg [7] 2 (fun k i wr => ∃ j : Nat, j = 0 ∧ k + j = 2 ∧ i = .int .i64 j ∧ wr = w)
    case atStart => exact ⟨0, rfl, rfl, rfl, rfl⟩
    case round =>
      obtain ⟨j, rfl, hj, rfl, rfl⟩ := hrel
      go_wp2_with fail
      go_ret
      exact ⟨rfl, Gr.refl _⟩
  · by_cases h2 : 6 < b.size
    · rw [if_pos (.inr h2)]
      go_enter Tryz.func164, Tryz.ntmps164
      go_wp2_with fail
      go_loopg [7] 2 (fun k i wr => ∃ j : Nat, k + j = 2 ∧ i = .int .i64 j ∧ j ≤ 1 ∧ wr = w)
      case atStart => exact ⟨0, rfl, rfl, by omega, rfl⟩
      case round =>
        obtain ⟨j, hj, rfl, hle, rfl⟩ := hrel
        match j, hj, hle with
        | 0, hj, _ =>
          go_wp2_with fail
          go_roundg 1
          case measure => omega
          case rel => exact ⟨1, by omega, by go_num, by omega, rfl⟩
        | 1, hj, _ =>
          go_wp2_with fail
          go_ret
          exact ⟨rfl, Gr.refl _⟩
    · rw [if_neg (by omega)]
      go_enter Tryz.func164, Tryz.ntmps164
      go_wp2_with fail
      go_loopg [7] 2 (fun k i wr => ∃ j : Nat, k + j = 2 ∧ i = .int .i64 j ∧ j ≤ 2 ∧ wr = w)
      case atStart => exact ⟨0, rfl, rfl, by omega, rfl⟩
      case round =>
        obtain ⟨j, hj, rfl, hle, rfl⟩ := hrel
        match j, hj, hle with
        | 0, hj, _ =>
          go_wp2_with fail
          go_roundg 1
          case measure => omega
          case rel => exact ⟨1, by omega, by go_num, by omega, rfl⟩
        | 1, hj, _ =>
          go_wp2_with fail
          go_roundg 0
          case measure => omega
          case rel => exact ⟨2, by omega, by go_num, by omega, rfl⟩
        | 2, hj, _ =>
          go_wp2_with fail
          go_ret
          exact ⟨rfl, Gr.refl _⟩
end Go.Proofs.YtlmdpamehhcblaaGreatDoor
