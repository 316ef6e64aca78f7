import Derived.Test.YtlmdpamehhcblaaGreatDoorLk
/- Contracts of the lexer: the steps of the parting, in memory. -/
namespace Go.Proofs.YtlmdpamehhcblaaGreatDoor
open Go.RowKit Go.Shelf
open YtlmdpamehhcblaaGreatDoorD (isT Tok tok0 partF partT cutEnd parter addL cls)

/-- What lies in memory while tokens are parted. -/
structure PM (w wr : World) (G cap : Nat) (front : List (List Tok)) (last : List Tok) (op : List (List UInt8)) (bp : Option Addr) (cp : Nat) : Prop where
  gr : Gr w wr
  pw : PW wr w.heap.size (.slice (some ⟨G, 0, none⟩) (front.length + 1) cap) (front ++ [last])
  tx : TxtRow w.heap.size wr (.slice bp op.length cp) op
theorem PM.mv {w wr w' : World} {G cap : Nat} {front : List (List Tok)} {last : List Tok} {op : List (List UInt8)} {bp : Option Addr} {cp : Nat} (h : PM w wr G cap front last op bp cp) (k : Gr wr w') : PM w w' G cap front last op bp cp :=
  ⟨h.gr.trans k, h.pw.gr k, h.tx.gr k⟩
theorem len_snoc {α : Type} (l : List α) (x : α) : (l ++ [x]).length = l.length + 1 := by rw [List.length_append]; rfl
/-- The outer row, written out. -/
theorem PM.out {w wr : World} {G cap : Nat} {front : List (List Tok)} {last : List Tok} {op : List (List UInt8)} {bp : Option Addr} {cp : Nat} (h : PM w wr G cap front last op bp cp) :
    ∃ vals : List Value, vals.length = front.length + 1 ∧ wr.ownsRow w.heap.size 67 1 (.slice (some ⟨G, 0, none⟩) (front.length + 1) cap) (front.length + 1) vals ∧ (∀ i u, vals[i]? = some u → TokRow w.heap.size wr u ((front ++ [last]).getD i [])) ∧ (∀ (i j : Nat) (u u' : Value), i < j → vals[i]? = some u → vals[j]? = some u' → ∀ k, u.ownBlock = some k → u'.ownBlock ≠ some k) := by
  obtain ⟨vals, p1, p2, p3, p4⟩ := h.pw
  rw [len_snoc] at p1 p2
  exact ⟨vals, p1, p2, p3, p4⟩
theorem PM.new {w W w2 : World} {G cap g2 cap2 : Nat} {front : List (List Tok)} {last : List Tok} {op : List (List UInt8)} {bp : Option Addr} {cp : Nat} (h : PM w W G cap front last op bp cp) {vals : List Value}
    (p1 : vals.length = front.length + 1) (p2 : W.ownsRow w.heap.size 67 1 (.slice (some ⟨G, 0, none⟩) (front.length + 1) cap) (front.length + 1) vals) (p3 : ∀ i u, vals[i]? = some u → TokRow w.heap.size W u ((front ++ [last]).getD i [])) (p4 : ∀ (i j : Nat) (u u' : Value), i < j → vals[i]? = some u → vals[j]? = some u' → ∀ k, u.ownBlock = some k → u'.ownBlock ≠ some k)
    (ho : w2.ownsRow w.heap.size 67 1 (.slice (some ⟨g2, 0, none⟩) (front.length + 1 + 1) cap2) (front.length + 1 + 1) (vals ++ [.slice none 0 0])) (hg : W.grownBy w2 (Value.slice (some ⟨G, 0, none⟩) (front.length + 1) cap).ownBlock) :
    PM w w2 g2 cap2 (front ++ [last]) [] op bp cp where
  gr := h.gr.grown hg (owns_row_ge p2)
  pw := by
    rw [← len_snoc front last] at p1 p2 ho hg
    exact PW.new p1 p2 p3 p4 ho hg
  tx := h.tx.kept hg (rows_apart h.tx p2 (by decide))
theorem PM.push {w W w2 : World} {G cap g2 cap2 : Nat} {front : List (List Tok)} {last : List Tok} {op : List (List UInt8)} {bp : Option Addr} {cp : Nat} (h : PM w W G cap front last op bp cp) (x : List UInt8)
    (ho : w2.ownsRow w.heap.size 9 1 (.slice (some ⟨g2, 0, none⟩) (op.length + 1) cap2) (op.length + 1) (op.map (fun s => Value.string (bs s)) ++ [.string (bs x)])) (hg : W.grownBy w2 (Value.slice bp op.length cp).ownBlock) :
    PM w w2 G cap front last (op ++ [x]) (some ⟨g2, 0, none⟩) cap2 where
  gr := h.gr.grown hg (owns_row_ge h.tx)
  pw := by
    obtain ⟨vals, p1, p2, p3, p4⟩ := h.pw
    exact ⟨vals, p1, p2.kept hg (rows_apart p2 h.tx (by decide)), fun i u hu => (p3 i u hu).kept hg (rows_apart (p3 i u hu) h.tx (by decide)), p4⟩
  tx := by
    unfold TxtRow
    rw [len_snoc, List.map_append]
    exact ho
theorem PM.pop {w W : World} {G cap : Nat} {front : List (List Tok)} {last : List Tok} {op : List (List UInt8)} {x : List UInt8} {g : Nat} {cp : Nat} (h : PM w W G cap front last (op ++ [x]) (some ⟨g, 0, none⟩) cp) : PM w W G cap front last op (some ⟨g, 0, none⟩) cp where
  gr := h.gr
  pw := h.pw
  tx := by
    have := h.tx
    unfold TxtRow at this ⊢
    rw [len_snoc, List.map_append] at this
    exact ownsRow_pop (by simp) this
/-- The last part. -/
theorem PM.last {w W : World} {G cap : Nat} {front : List (List Tok)} {last : List Tok} {vals : List Value}
    (p1 : vals.length = front.length + 1) (p2 : W.ownsRow w.heap.size 67 1 (.slice (some ⟨G, 0, none⟩) (front.length + 1) cap) (front.length + 1) vals) (p3 : ∀ i u, vals[i]? = some u → TokRow w.heap.size W u ((front ++ [last]).getD i [])) :
    ∃ bu cu, vals[front.length]? = some (.slice bu last.length cu) ∧ W.cell? ⟨G, front.length, none⟩ = some (.slice bu last.length cu) ∧ W.frozen? ⟨G, front.length, none⟩ = false ∧ TokRow w.heap.size W (.slice bu last.length cu) last := by
  have hlt : front.length < vals.length := by omega
  have hv : vals[front.length]? = some vals[front.length] := List.getElem?_eq_getElem hlt
  have hT := p3 _ _ hv
  rw [List.getD_eq_getElem?_getD, List.getElem?_append_right (Nat.le_refl _), Nat.sub_self] at hT
  have hT : TokRow w.heap.size W vals[front.length] last := hT
  have hc := p2.cellAt front.length (by omega)
  rw [hv] at hc
  have hf := p2.frozenAt front.length
  rcases hT.2 with ⟨e, h0⟩ | ⟨g, c, cur, e, _⟩
  · rw [e, ← h0] at hv hc hT
    exact ⟨none, last.length, by rw [hv, h0], by rw [hc, h0], hf, by rw [h0] at hT ⊢; exact hT⟩
  · rw [e] at hv hc hT
    exact ⟨_, c, hv, hc, hf, hT⟩
theorem PM.add {w W w3 : World} {G cap g' c' : Nat} {front : List (List Tok)} {last : List Tok} {t : Tok} {op : List (List UInt8)} {bp bu : Option Addr} {cp cu : Nat} (h : PM w W G cap front last op bp cp) {vals : List Value}
    (p1 : vals.length = front.length + 1) (p2 : W.ownsRow w.heap.size 67 1 (.slice (some ⟨G, 0, none⟩) (front.length + 1) cap) (front.length + 1) vals) (p3 : ∀ i u, vals[i]? = some u → TokRow w.heap.size W u ((front ++ [last]).getD i [])) (p4 : ∀ (i j : Nat) (u u' : Value), i < j → vals[i]? = some u → vals[j]? = some u' → ∀ k, u.ownBlock = some k → u'.ownBlock ≠ some k)
    (hu : vals[front.length]? = some (.slice bu last.length cu)) (hr : TokRow w.heap.size W (.slice bu last.length cu) last)
    (ho : w3.ownsRow w.heap.size 85 3 (.slice (some ⟨g', 0, none⟩) (last.length + 1) c') (last.length + 1) (last.flatMap tcells ++ tcells t)) (hg : W.grownBy w3 (Value.slice bu last.length cu).ownBlock) (hat : (Value.slice bu last.length cu).ownBlock = some g' ∨ g' = W.heap.size) :
    PM w (w3.setCell ⟨G, front.length, none⟩ (.slice (some ⟨g', 0, none⟩) (last.length + 1) c')) G cap front (last ++ [t]) op bp cp where
  gr := (h.gr.grown hg (owns_row_ge hr)).setCell (by have := (p2.lt G rfl).1; exact this) _
  pw := by
    rw [← len_snoc front last] at p1 p2
    have ho' : TokRow w.heap.size w3 (.slice (some ⟨g', 0, none⟩) (last.length + 1) c') (last ++ [t]) := by
      unfold TokRow; rw [len_snoc, List.flatMap_append]
      simpa using ho
    have := PW.add p1 p2 p3 p4 hu ho' rfl hg hat
    rwa [len_snoc] at this
  tx := by
    have h1 := h.tx.kept hg (rows_apart h.tx hr (by decide))
    have h2 := p2.kept hg (rows_apart p2 hr (by decide))
    exact ownsRow_setCell_other (a := ⟨G, front.length, none⟩) h1 (rows_ne h1 h2 (by decide) rfl) _
/-- What the walk reads behind the append. -/
theorem PM.add_cell {w W w3 : World} {G cap : Nat} {front : List (List Tok)} {last : List Tok} {bu : Option Addr} {cu : Nat} {vals : List Value}
    (p1 : vals.length = front.length + 1) (p2 : W.ownsRow w.heap.size 67 1 (.slice (some ⟨G, 0, none⟩) (front.length + 1) cap) (front.length + 1) vals) (hr : TokRow w.heap.size W (.slice bu last.length cu) last) (hg : W.grownBy w3 (Value.slice bu last.length cu).ownBlock) :
    (∃ u, w3.cell? ⟨G, front.length, none⟩ = some u) ∧ w3.frozen? ⟨G, front.length, none⟩ = false := by
  have h2 := p2.kept hg (rows_apart p2 hr (by decide))
  refine ⟨?_, h2.frozenAt _⟩
  have hlt : front.length < vals.length := by omega
  exact ⟨_, (h2.cellAt front.length (by omega)).trans (List.getElem?_eq_getElem hlt)⟩
end Go.Proofs.YtlmdpamehhcblaaGreatDoor
