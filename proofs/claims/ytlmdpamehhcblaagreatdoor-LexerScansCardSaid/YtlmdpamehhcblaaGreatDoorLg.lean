import Derived.Test.YtlmdpamehhcblaaGreatDoorLf
/- Contracts of the lexer: Normal. -/
namespace Go.Proofs.YtlmdpamehhcblaaGreatDoor
open Go.RowKit Go.Shelf
open YtlmdpamehhcblaaGreatDoorD (isDig isLet cls marks spanN wlen nlen nfront werr nerr nextT scanF scanT Tok formT apartT tok0 glueN ferrF joinT normT)

theorem tcells_get : ∀ (l : List Tok) (j i : Nat), j < l.length → i < 3 → (l.flatMap tcells)[j * 3 + i]? = (tcells (l.getD j tok0))[i]?
  | [], j, i, h, _ => by simp at h
  | t :: r, 0, i, _, hi => by
    rw [List.flatMap_cons, List.getElem?_append_left (by show _ < 3; omega), Nat.zero_mul, Nat.zero_add]; rfl
  | t :: r, j + 1, i, h, hi => by
    rw [List.flatMap_cons, List.getElem?_append_right (by show 3 ≤ _; omega)]
    have := tcells_get r j i (by simpa using h) hi
    rw [show (j + 1) * 3 + i - (tcells t).length = j * 3 + i by show (j + 1) * 3 + i - 3 = _; omega, this]; rfl
theorem tok_at {base : Nat} {w : World} {g cap : Nat} {l : List Tok} (h : TokRow base w (.slice (some ⟨g, 0, none⟩) l.length cap) l) : TokAt w g 0 l := by
  intro j hj
  refine ⟨?_, ?_, ?_⟩
  · rw [show 0 + j * 3 = j * 3 + 0 by omega, h.cellAt _ (by omega), tcells_get l j 0 hj (by omega)]; rfl
  · rw [show 0 + j * 3 + 1 = j * 3 + 1 by omega, h.cellAt _ (by omega), tcells_get l j 1 hj (by omega)]; rfl
  · rw [show 0 + j * 3 + 2 = j * 3 + 2 by omega, h.cellAt _ (by omega), tcells_get l j 2 hj (by omega)]; rfl
/-- What a call of Scan gives to the next call. -/
theorem tok_form {base : Nat} {w : World} {v : Value} {l : List Tok} (h : TokRow base w v l) : ∃ b c, v = .slice b l.length c ∧ ∃ g, (l ≠ [] → b = some ⟨g, 0, none⟩) ∧ TokAt w g 0 l := by
  cases l with
  | nil =>
    rcases h.2 with ⟨rfl, _⟩ | ⟨g, cap, cur, hv, rest⟩
    · exact ⟨none, 0, rfl, 0, fun x => absurd rfl x, fun j hj => by simp at hj⟩
    · exact ⟨some ⟨g, 0, none⟩, cap, hv, g, fun _ => rfl, fun j hj => by simp at hj⟩
  | cons t r =>
    obtain ⟨g, cap, rfl, hbg, hgl⟩ := h.form (by simp)
    exact ⟨some ⟨g, 0, none⟩, cap, rfl, g, fun _ => rfl, tok_at h⟩
/-- What Normal returns. -/
def RetNorm (r : List UInt8 × Nat × Nat) (w : World) (e : Ending) (w' : World) : Prop := e = .returned (.tuple #[.string (bs r.1), .int .i64 r.2.1, .int .i64 r.2.2]) ∧ Gr w w'
set_option maxHeartbeats 1000000 in
theorem Normal_c (w : World) (s : List UInt8) (hs : s.length ≤ 4611686018427387904) : Calls Tryz.prog 54 #[.string (bs s)] w (RetNorm (normT s) w) := by
  have HS := Lib.hid (Scan_c w s hs)
  have hlen := YtlmdpamehhcblaaGreatDoorD.scanT_len s
  have hT := YtlmdpamehhcblaaGreatDoorD.scanT_texts s
  have e : normT s = (if (scanT s).2.2 ≠ 0 then ([], (scanT s).2.1, (scanT s).2.2) else ((joinT (scanT s).1).1, 0, (joinT (scanT s).1).2)) := rfl
  have HJ := Lib.hid (fun w b g c hb hl => Join_c w b g 0 c (scanT s).1 hb hl (by omega) (YtlmdpamehhcblaaGreatDoorD.getD_all (P := fun t => t.text.length ≤ 4611686018427387904) (fun t ht => Nat.le_trans (hT t ht) hs) (by decide)))
  unfold RetScan at HS
  unfold RetJoin at HJ
  unfold RetNorm
  rw [e]
  clear e hT
  generalize scanT s = r at *
  obtain ⟨L, at', er⟩ := r
  dsimp only at *
  by_cases he : er = 0
  · subst he
    rw [if_neg (by simp)]
    generalize joinT L = q at *
    go_enter Tryz.func54, Tryz.ntmps54
    go_wp2_with fail
    refine HS.out.mono ?_
    rintro e w1 ⟨v, rfl, hrow, hg1⟩
    obtain ⟨b, c, rfl, g, hb, hat⟩ := tok_form hrow
    have HJ2 := Lib.hid (HJ.out w1 b g c hb hat)
    go_wp2_with fail
    refine HJ2.out.mono ?_
    rintro e w2 ⟨rfl, hg2⟩
    go_wp2_with fail
    go_ret3
    exact ⟨rfl, hg1.trans hg2⟩
  · rw [if_pos he]
    have kE : ¬ ((er : Nat) : Int) = 0 := by omega
    clear HJ
    go_enter Tryz.func54, Tryz.ntmps54
    go_wp2_with fail
    refine HS.out.mono ?_
    rintro e w1 ⟨v, rfl, hrow, hg1⟩
    obtain ⟨b, c, rfl, g, hb, hat⟩ := tok_form hrow
    go_wp2_with fail
    go_ret3
    exact ⟨rfl, hg1⟩
end Go.Proofs.YtlmdpamehhcblaaGreatDoor
