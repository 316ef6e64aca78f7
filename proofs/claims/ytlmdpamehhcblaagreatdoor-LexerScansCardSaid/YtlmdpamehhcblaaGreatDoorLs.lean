import Derived.Test.YtlmdpamehhcblaaGreatDoorLl
/- Contracts of the lexer: Parts, of whatever tokens and signs. -/
namespace Go.Proofs.YtlmdpamehhcblaaGreatDoor
open Go.RowKit Go.Shelf
open YtlmdpamehhcblaaGreatDoorD (isT Tok tok0 partF partT cutEnd parter addL cls)

set_option maxHeartbeats 4000000 in
set_option maxRecDepth 20000 in
theorem Parts14_c (w : World) (he : Env w) (b : Option Addr) (g off c : Nat) (l : List Tok) (sg : List UInt8) (hb : l ≠ [] → b = some ⟨g, off, none⟩) (hl : TokAt w g off l) (hc : l.length ≤ c) (hm : l.length ≤ 4611686018427387904) (hsg : sg.length ≤ 4611686018427387904) :
    Calls Tryz.prog 66 #[.slice b l.length c, .string (bs sg)] w (RetParts (partT l sg) w) := by
  have e : partT l sg = (if 4097 < l.length then ([], 5) else if parter sg = false then ([], 1) else partF sg (cutEnd l) [] [[]]) := rfl
  by_cases hbig : 4097 < l.length
  · rw [if_pos hbig] at e
    rw [e]
    clear e hb hl hc
    generalize l.length = N at *
    go_enter Tryz.func66, Tryz.ntmps66
    go_wp2_with fail
    go_ret2
    exact RetParts.bad (n := 5) rfl (Gr.refl w)
  · rw [if_neg hbig] at e
    by_cases hp : parter sg = true
    · rw [if_neg (by rw [hp]; simp)] at e
      rw [e]
      exact Parts_loop0 w he b g off c l sg hb hl (by omega) hc hp
    · rw [if_pos (by simpa using hp)] at e
      rw [e]
      have HE := Lib.hid he
      have hp' : parter sg = false := by simpa using hp
      have hsz := bs_size sg
      clear e hb hl hc hp he
      generalize l.length = N at *
      by_cases h1 : sg.length = 1
      · have hz : 0 < (bs sg).size := by omega
        by_cases h4 : cls (sg.getD 0 0) = 4
        · have hcon : Lib.contains [40, 41, 91, 93] sg = true := by
            obtain ⟨x, r, rfl⟩ := List.exists_cons_of_ne_nil (show sg ≠ [] by intro e; rw [e] at h1; simp at h1)
            have hr : r = [] := List.eq_nil_of_length_eq_zero (by simpa using h1)
            subst hr
            unfold parter at hp'
            rw [h4] at hp'
            simp at hp'
            rw [brackets]
            by_cases a1 : x = 40
            · simp [a1]
            · by_cases a2 : x = 41
              · simp [a2]
              · by_cases a3 : x = 91
                · simp [a3]
                · simp [hp' a1 a2 a3]
          have HC := Lib.hid (class0_c sg hz 4 h4)
          have HK := Lib.hid (fun w he => Contains_c w he [40, 41, 91, 93] sg (by decide))
          rw [hcon] at HK
          clear h4 hcon hp'
          go_enter Tryz.func66, Tryz.ntmps66
          go_wp2_with fail
          refine (HC.out _).mono ?_
          rintro e w1 ⟨rfl, hw1⟩
          replace hw1 := hw1.symm
          subst hw1
          go_wp2_with fail
          refine (HK.out _ HE.out).mono ?_
          rintro e w1 ⟨rfl, hw1⟩
          replace hw1 := hw1.symm
          subst hw1
          go_wp2_with fail
          go_ret2
          exact RetParts.bad (n := 1) rfl (Gr.refl w)
        · have HC := Lib.hid (class0_c sg hz _ rfl)
          have k4 : ¬ ((cls (sg.getD 0 0) : Nat) : Int) = 4 := by omega
          have k4b : (((cls (sg.getD 0 0) : Nat) : Int) != 4) = true := bne_iff_ne.2 k4
          clear h4 hp'
          generalize cls (sg.getD 0 0) = kk at *
          go_enter Tryz.func66, Tryz.ntmps66
          go_wp2_with fail
          refine (HC.out _).mono ?_
          rintro e w1 ⟨rfl, hw1⟩
          replace hw1 := hw1.symm
          subst hw1
          go_wp2_with fail
          go_ret2
          exact RetParts.bad (n := 1) rfl (Gr.refl w)
      · have k1 : ¬ ((sg.length : Nat) : Int) = 1 := by omega
        have k1b : (((sg.length : Nat) : Int) != 1) = true := bne_iff_ne.2 k1
        clear hp'
        go_enter Tryz.func66, Tryz.ntmps66
        go_wp2_with fail
        go_ret2
        exact RetParts.bad (n := 1) rfl (Gr.refl w)
theorem tok_form2 {base : Nat} {w : World} {v : Value} {l : List Tok} (h : TokRow base w v l) : ∃ b c, v = .slice b l.length c ∧ l.length ≤ c ∧ ∃ g, (l ≠ [] → b = some ⟨g, 0, none⟩) ∧ TokAt w g 0 l := by
  rcases h.2 with ⟨rfl, h0⟩ | ⟨g, cap, cur, hv, _, _, hc, _⟩
  · have e : l = [] := List.eq_nil_of_length_eq_zero h0
    subst e
    exact ⟨none, 0, rfl, Nat.le_refl _, 0, fun x => absurd rfl x, fun j hj => by simp at hj⟩
  · subst hv
    exact ⟨_, cap, rfl, hc, g, fun _ => rfl, tok_at h⟩
/-- Where the parts lie. -/
theorem PW.cell {w : World} {base n c : Nat} {b : Option Addr} {ll : List (List Tok)} (h : PW w base (.slice b n c) ll) (hn : n = ll.length) (i : Nat) (hi : i < ll.length) : ∃ G bi ci, b = some ⟨G, 0, none⟩ ∧ w.cell? ⟨G, i, none⟩ = some (.slice bi (ll.getD i []).length ci) ∧ TokRow base w (.slice bi (ll.getD i []).length ci) (ll.getD i []) := by
  obtain ⟨vals, h1, h2, h3, _⟩ := h
  obtain ⟨G, cap, hv, _⟩ := h2.form (by omega)
  simp only [Value.slice.injEq] at hv
  obtain ⟨rfl, rfl, rfl⟩ := hv
  have hlt : i < vals.length := by omega
  have hvi : vals[i]? = some vals[i] := List.getElem?_eq_getElem hlt
  have hT := h3 _ _ hvi
  obtain ⟨bi, ci, e, _⟩ := tok_form2 hT
  rw [e] at hvi hT
  exact ⟨G, bi, ci, rfl, (h2.cellAt i (by omega)).trans hvi, hT⟩
end Go.Proofs.YtlmdpamehhcblaaGreatDoor
