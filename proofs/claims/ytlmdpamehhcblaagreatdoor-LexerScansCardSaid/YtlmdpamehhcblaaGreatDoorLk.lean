import Derived.Test.YtlmdpamehhcblaaGreatDoorLj
import Derived.Deep.RegionLaw
import Derived.WalkSmall
/- Contracts of the lexer: what parts lie in memory. -/
namespace Go.Proofs.YtlmdpamehhcblaaGreatDoor
open Go.RowKit Go.Shelf
open YtlmdpamehhcblaaGreatDoorD (isT Tok tok0 partF partT cutEnd parter addL)

theorem rows_apart {w : World} {b1 b2 s1 s2 n1 n2 : Nat} {e1 e2 : TypeId} {v1 v2 : Value} {x1 x2 : List Value} (h1 : w.ownsRow b1 e1 s1 v1 n1 x1) (h2 : w.ownsRow b2 e2 s2 v2 n2 x2) (hne : e1 ≠ e2) : v1.ownBlock = none ∨ v1.ownBlock ≠ v2.ownBlock := by
  rcases h1.2 with ⟨rfl, _⟩ | ⟨g, cap, cur, rfl, _, hg, _⟩
  · exact .inl rfl
  · right
    rcases h2.2 with ⟨rfl, _⟩ | ⟨g', cap', cur', rfl, _, hg', _⟩
    · simp [Value.ownBlock]
    · simp only [Value.ownBlock, ne_eq, Option.some.injEq]
      rintro rfl
      rw [hg] at hg'
      simp only [Option.some.injEq, Obj.cells.injEq] at hg'
      exact hne hg'.2.1
theorem rows_ne {w : World} {b1 b2 s1 s2 n1 n2 : Nat} {e1 e2 : TypeId} {v1 v2 : Value} {x1 x2 : List Value} (h1 : w.ownsRow b1 e1 s1 v1 n1 x1) (h2 : w.ownsRow b2 e2 s2 v2 n2 x2) (hne : e1 ≠ e2) {k : Nat} (hk : v2.ownBlock = some k) : v1.ownBlock ≠ some k := by
  rcases rows_apart h1 h2 hne with h | h
  · rw [h]; simp
  · rw [← hk]; exact h
/-- Parts of tokens, owned. -/
def PW (w : World) (base : Nat) (v : Value) (ll : List (List Tok)) : Prop :=
  ∃ vals : List Value, vals.length = ll.length ∧ w.ownsRow base 67 1 v ll.length vals ∧ (∀ i u, vals[i]? = some u → TokRow base w u (ll.getD i [])) ∧ (∀ (i j : Nat) (u u' : Value), i < j → vals[i]? = some u → vals[j]? = some u' → ∀ k, u.ownBlock = some k → u'.ownBlock ≠ some k)
theorem PW.gr {w w' : World} {base : Nat} {v : Value} {ll : List (List Tok)} (h : PW w base v ll) (k : Gr w w') : PW w' base v ll := by
  obtain ⟨vals, h1, h2, h3, h4⟩ := h
  exact ⟨vals, h1, owns_gr h2 k, fun i u hu => (h3 i u hu).gr k, h4⟩
/-- A part more. -/
theorem PW.new {w w' : World} {base : Nat} {v v' : Value} {ll : List (List Tok)} {vals : List Value} (h1 : vals.length = ll.length) (h2 : w.ownsRow base 67 1 v ll.length vals) (h3 : ∀ i u, vals[i]? = some u → TokRow base w u (ll.getD i [])) (h4 : ∀ (i j : Nat) (u u' : Value), i < j → vals[i]? = some u → vals[j]? = some u' → ∀ k, u.ownBlock = some k → u'.ownBlock ≠ some k)
    (ho : w'.ownsRow base 67 1 v' (ll.length + 1) (vals ++ [.slice none 0 0])) (hg : w.grownBy w' v.ownBlock) : PW w' base v' (ll ++ [[]]) := by
  refine ⟨vals ++ [.slice none 0 0], by simp [h1], by rw [List.length_append]; exact ho, fun i u hu => ?_, fun i j u u' hij hi hj k hk => ?_⟩
  · rcases Nat.lt_or_ge i vals.length with hl | hl
    · rw [List.getElem?_append_left hl] at hu
      have := h3 i u hu
      rw [List.getD_eq_getElem?_getD, List.getElem?_append_left (by omega), ← List.getD_eq_getElem?_getD]
      exact this.kept hg (rows_apart this h2 (by decide))
    · rw [List.getElem?_append_right hl] at hu
      have h0 : i - vals.length = 0 := by
        rcases Nat.eq_zero_or_pos (i - vals.length) with h | h
        · exact h
        · rw [List.getElem?_eq_none (by simp; omega)] at hu; cases hu
      rw [h0] at hu
      simp only [List.getElem?_cons_zero, Option.some.injEq] at hu
      subst hu
      rw [List.getD_eq_getElem?_getD, List.getElem?_append_right (by omega), show i - ll.length = 0 by omega]
      exact TokRow.nil _ _
  · rcases Nat.lt_or_ge j vals.length with hl | hl
    · rw [List.getElem?_append_left hl] at hj
      rw [List.getElem?_append_left (by omega)] at hi
      exact h4 i j u u' hij hi hj k hk
    · rw [List.getElem?_append_right hl] at hj
      have h0 : j - vals.length = 0 := by
        rcases Nat.eq_zero_or_pos (j - vals.length) with h | h
        · exact h
        · rw [List.getElem?_eq_none (by simp; omega)] at hj; cases hj
      rw [h0] at hj
      simp only [List.getElem?_cons_zero, Option.some.injEq] at hj
      subst hj
      simp [Value.ownBlock]
/-- One token more in the last part: the world behind the append, and behind the store. -/
theorem PW.add {W w3 : World} {base G cap : Nat} {front : List (List Tok)} {last : List Tok} {t : Tok} {vals : List Value} {u u' : Value} {g' : Nat}
    (h1 : vals.length = (front ++ [last]).length) (h2 : W.ownsRow base 67 1 (.slice (some ⟨G, 0, none⟩) (front ++ [last]).length cap) (front ++ [last]).length vals) (h3 : ∀ i u, vals[i]? = some u → TokRow base W u ((front ++ [last]).getD i [])) (h4 : ∀ (i j : Nat) (u u' : Value), i < j → vals[i]? = some u → vals[j]? = some u' → ∀ k, u.ownBlock = some k → u'.ownBlock ≠ some k)
    (hu : vals[front.length]? = some u) (ho : TokRow base w3 u' (last ++ [t])) (hu' : u'.ownBlock = some g') (hg : W.grownBy w3 u.ownBlock) (hat : u.ownBlock = some g' ∨ g' = W.heap.size) :
    PW (w3.setCell ⟨G, front.length, none⟩ u') base (.slice (some ⟨G, 0, none⟩) (front ++ [last]).length cap) (front ++ [last ++ [t]]) := by
  have hn : (front ++ [last]).length = front.length + 1 := by rw [List.length_append]; rfl
  have hlast : TokRow base W u last := by
    have := h3 _ _ hu
    rwa [List.getD_eq_getElem?_getD, List.getElem?_append_right (Nat.le_refl _), Nat.sub_self] at this
  have hG : (Value.slice (some ⟨G, 0, none⟩) (front ++ [last]).length cap).ownBlock = some G := rfl
  have hout := h2.kept hg (rows_apart h2 hlast (by decide))
  have hst := hout.stored front.length u'
  refine ⟨vals.set front.length u', by simp [h1], ?_, fun i x hx => ?_, fun i j x y hij hi hj k hk => ?_⟩
  · have e : (front ++ [last ++ [t]]).length = (front ++ [last]).length := by simp
    rw [e]; exact hst.1
  · rw [List.getElem?_set] at hx
    split at hx
    · rename_i hi
      split at hx
      · simp only [Option.some.injEq] at hx
        subst hx hi
        rw [List.getD_eq_getElem?_getD, List.getElem?_append_right (Nat.le_refl _), Nat.sub_self]
        exact ownsRow_setCell_other ho (rows_ne ho hout (by decide) hG) _
      · cases hx
    · rename_i hi
      have hlt : i < vals.length := by
        rcases Nat.lt_or_ge i vals.length with h | h
        · exact h
        · rw [List.getElem?_eq_none h] at hx; cases hx
      have hr := h3 i x hx
      rw [List.getD_eq_getElem?_getD, List.getElem?_append_left (by omega)] at hr ⊢
      have hne : x.ownBlock = none ∨ x.ownBlock ≠ u.ownBlock := by
        cases hxb : x.ownBlock with
        | none => exact .inl rfl
        | some k =>
          right
          intro e
          exact h4 i front.length x u (by omega) hx hu k hxb e.symm
      have hr3 : TokRow base w3 x _ := World.ownsRow.kept hr hg hne
      exact ownsRow_setCell_other hr3 (rows_ne hr3 hout (by decide) hG) _
  · rw [List.getElem?_set] at hi hj
    have hjl : j ≤ front.length := by
      rcases Nat.lt_or_ge front.length j with h | h
      · rw [if_neg (by omega), List.getElem?_eq_none (by omega)] at hj; cases hj
      · exact h
    rw [if_neg (by omega)] at hi
    split at hj
    · split at hj
      · simp only [Option.some.injEq] at hj
        subst hj
        rw [hu']
        intro e
        simp only [Option.some.injEq] at e
        subst e
        rcases hat with h | h
        · exact h4 i front.length x u (by omega) hi hu _ hk h
        · have := ((h3 i x hi).lt _ hk).2
          omega
      · cases hj
    · exact h4 i j x y hij hi hj k hk
/-- Texts, owned. -/
def TxtRow (base : Nat) (w : World) (v : Value) (op : List (List UInt8)) : Prop := w.ownsRow base 9 1 v op.length (op.map fun s => Value.string (bs s))
theorem TxtRow.gr {base : Nat} {w w' : World} {v : Value} {l : List (List UInt8)} (h : TxtRow base w v l) (k : Gr w w') : TxtRow base w' v l := owns_gr h k
theorem TxtRow.nil (base : Nat) (w : World) : TxtRow base w (.slice none 0 0) [] := World.ownsRow_nil _ _ _ _
theorem info67 : (Tryz.prog.info? 67).map (fun i => (i.zero, i.size, i.bytes)) = some (some (.slice none 0 0), 1, 24) := by kernel_rfl
theorem info9 : (Tryz.prog.info? 9).map (fun i => (i.zero, i.size, i.bytes)) = some (some (.string { data := #[] }), 1, 16) := by kernel_rfl
end Go.Proofs.YtlmdpamehhcblaaGreatDoor
