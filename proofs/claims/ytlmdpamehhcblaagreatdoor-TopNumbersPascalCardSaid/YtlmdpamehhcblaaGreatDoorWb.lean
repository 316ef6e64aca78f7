import Derived.Test.YtlmdpamehhcblaaGreatDoorWa
import Derived.Laws.CopyOwn
/- The memory of a wide: one block of 234 cells: the sign, the number of words, the words. -/
namespace Go.Proofs.YtlmdpamehhcblaaGreatDoor
open Go.RowKit
open YtlmdpamehhcblaaGreatDoorV (wd nw B upd)

/-- The cells of a wide with words f. -/
def wcells (less : Bool) (n : Int) (f : Nat → Int) : Array Value := ((.bool less :: .int .i64 n :: (List.range 232).map (fun j => Value.int .i64 (f j))) : List Value).toArray
theorem wcells_size (less : Bool) (n : Int) (f : Nat → Int) : (wcells less n f).size = 234 := by simp [wcells]
theorem wcells_zero (b : Bool) : Tryz.zeroCells136.setIfInBounds 0 (.bool b) = wcells b 0 (fun _ => 0) := by cases b <;> kernel_rfl
theorem wcells_zero' : Tryz.zeroCells136 = wcells false 0 (fun _ => 0) := by kernel_rfl
/-- Block g holds a wide with words f. -/
def WB (W : World) (g : Nat) (less : Bool) (n : Int) (f : Nat → Int) : Prop := W.heap[g]? = some (.cells (wcells less n f) 136 (0, 0))
theorem wcells_get0 (less : Bool) (n : Int) (f : Nat → Int) : (wcells less n f)[0]? = some (.bool less) := by simp [wcells]
theorem wcells_get1 (less : Bool) (n : Int) (f : Nat → Int) : (wcells less n f)[1]? = some (.int .i64 n) := by simp [wcells]
theorem wcells_get (less : Bool) (n : Int) (f : Nat → Int) (i : Nat) (h : i < 232) : (wcells less n f)[i + 2]? = some (.int .i64 (f i)) := by
  simp [wcells, List.getElem?_cons_succ, h]
theorem WB.cell {W : World} {g : Nat} {less : Bool} {n : Int} {f : Nat → Int} (h : WB W g less n f) (i : Nat) : W.cell? ⟨g, i, none⟩ = (wcells less n f)[i]? := by
  unfold WB at h; simp [World.cell?, h]
theorem WB.c0 {W : World} {g : Nat} {less : Bool} {n : Int} {f : Nat → Int} (h : WB W g less n f) : W.cell? ⟨g, 0, none⟩ = some (.bool less) := by rw [h.cell, wcells_get0]
theorem WB.c1 {W : World} {g : Nat} {less : Bool} {n : Int} {f : Nat → Int} (h : WB W g less n f) : W.cell? ⟨g, 1, none⟩ = some (.int .i64 n) := by rw [h.cell, wcells_get1]
theorem WB.cw {W : World} {g : Nat} {less : Bool} {n : Int} {f : Nat → Int} (h : WB W g less n f) (i : Nat) (hi : i < 232) : W.cell? ⟨g, 2 + i, none⟩ = some (.int .i64 (f i)) := by rw [h.cell, Nat.add_comm, wcells_get _ _ _ _ hi]
theorem WB.fz {W : World} {g : Nat} {less : Bool} {n : Int} {f : Nat → Int} (h : WB W g less n f) (i : Nat) : W.frozen? ⟨g, i, none⟩ = false := by
  unfold WB at h; simp [World.frozen?, h]
theorem WB.lt {W : World} {g : Nat} {less : Bool} {n : Int} {f : Nat → Int} (h : WB W g less n f) : g < W.heap.size := by
  unfold WB at h; exact (Array.getElem?_eq_some_iff.1 h).1
theorem wcells_ext (less : Bool) (n : Int) {f f' : Nat → Int} (h : ∀ j, j < 232 → f j = f' j) : wcells less n f = wcells less n f' := by
  unfold wcells; congr 3
  apply List.map_congr_left
  intro j hj; rw [h j (List.mem_range.1 hj)]
theorem WB.ext {W : World} {g : Nat} {less : Bool} {n : Int} {f f' : Nat → Int} (h : WB W g less n f) (e : ∀ j, j < 232 → f j = f' j) : WB W g less n f' := by
  unfold WB at *; rw [h, wcells_ext less n e]
theorem wcells_set0 (less b : Bool) (n : Int) (f : Nat → Int) : (wcells less n f).setIfInBounds 0 (.bool b) = wcells b n f := by simp [wcells]
theorem wcells_set1 (less : Bool) (n m : Int) (f : Nat → Int) : (wcells less n f).setIfInBounds 1 (.int .i64 m) = wcells less m f := by simp [wcells]
theorem wcells_set (less : Bool) (n v : Int) (f : Nat → Int) (i : Nat) (hi : i < 232) : (wcells less n f).setIfInBounds (2 + i) (.int .i64 v) = wcells less n (upd f i v) := by
  apply Array.ext_getElem?
  intro j
  rw [Array.getElem?_setIfInBounds]
  by_cases e : 2 + i = j
  · subst e
    rw [if_pos rfl, if_pos (by rw [wcells_size]; omega), Nat.add_comm 2 i, wcells_get _ _ _ _ hi, YtlmdpamehhcblaaGreatDoorV.upd_same]
  · rw [if_neg e]
    match j with
    | 0 => rw [wcells_get0, wcells_get0]
    | 1 => rw [wcells_get1, wcells_get1]
    | j + 2 =>
      by_cases hj : j < 232
      · rw [wcells_get _ _ _ _ hj, wcells_get _ _ _ _ hj, YtlmdpamehhcblaaGreatDoorV.upd_other _ _ (by omega)]
      · rw [Array.getElem?_eq_none (by rw [wcells_size]; omega), Array.getElem?_eq_none (by rw [wcells_size]; omega)]
theorem setCell_heap (W : World) (g i : Nat) (v : Value) (cs : Array Value) (t : TypeId) (fr : Nat × Nat) (h : W.heap[g]? = some (.cells cs t fr)) :
    (W.setCell ⟨g, i, none⟩ v).heap[g]? = some (.cells (cs.setIfInBounds i v) t fr) := by
  simp [World.setCell, h, Array.getElem?_modify]
theorem WB.set0 {W : World} {g : Nat} {less : Bool} {n : Int} {f : Nat → Int} (h : WB W g less n f) (b : Bool) : WB (W.setCell ⟨g, 0, none⟩ (.bool b)) g b n f := by
  unfold WB at *; rw [setCell_heap _ _ _ _ _ _ _ h, wcells_set0]
theorem WB.set1 {W : World} {g : Nat} {less : Bool} {n : Int} {f : Nat → Int} (h : WB W g less n f) (m : Int) : WB (W.setCell ⟨g, 1, none⟩ (.int .i64 m)) g less m f := by
  unfold WB at *; rw [setCell_heap _ _ _ _ _ _ _ h, wcells_set1]
theorem WB.setw {W : World} {g : Nat} {less : Bool} {n : Int} {f : Nat → Int} (h : WB W g less n f) (i : Nat) (hi : i < 232) (v : Int) : WB (W.setCell ⟨g, 2 + i, none⟩ (.int .i64 v)) g less n (upd f i v) := by
  unfold WB at *; rw [setCell_heap _ _ _ _ _ _ _ h, wcells_set _ _ _ _ _ hi]
theorem WB.far {W : World} {g : Nat} {less : Bool} {n : Int} {f : Nat → Int} (h : WB W g less n f) {p : Addr} (hp : g ≠ p.block) (v : Value) : WB (W.setCell p v) g less n f := by
  unfold WB at *; rw [Below.heap_setCell _ _ _ _ hp]; exact h
theorem WB.below {W W' : World} {g : Nat} {less : Bool} {n : Int} {f : Nat → Int} (h : WB W g less n f) {b : Nat} (hb : Below b W W') (hg : g < b) : WB W' g less n f := by
  unfold WB at *; rw [hb.block g hg]; exact h
theorem WB.grow {W W' : World} {g : Nat} {less : Bool} {n : Int} {f : Nat → Int} (h : WB W g less n f) (hb : Below W.heap.size W W') : WB W' g less n f := h.below hb h.lt
theorem WB.alloc {W : World} {g : Nat} {less : Bool} {n : Int} {f : Nat → Int} (h : WB W g less n f) (o : Obj) : WB (W.alloc o) g less n f := h.grow ((Below.refl _ _).alloc (Nat.le_refl _) o)
theorem WB.drewN {W : World} {g : Nat} {less : Bool} {n : Int} {f : Nat → Int} (h : WB W g less n f) (m : Nat) : WB (W.drewN m) g less n f := h
theorem WB.drew {W : World} {g : Nat} {less : Bool} {n : Int} {f : Nat → Int} (h : WB W g less n f) : WB W.drew g less n f := h
theorem WB.new (W : World) (b : Bool) : WB (W.alloc (.cells (Tryz.zeroCells136.setIfInBounds 0 (.bool b)) 136)) W.heap.size b 0 (fun _ => 0) := by
  unfold WB
  rw [wcells_zero]
  show (W.heap.push _)[W.heap.size]? = _
  simp
theorem WB.new' (W : World) : WB (W.alloc (.cells Tryz.zeroCells136 136)) W.heap.size false 0 (fun _ => 0) := by
  unfold WB
  rw [wcells_zero']
  show (W.heap.push _)[W.heap.size]? = _
  simp
/-- Block g holds the number (less, v). -/
def IsW (W : World) (g : Nat) (less : Bool) (v : Nat) : Prop := WB W g less (nw v) (fun j => (wd v j : Int)) ∧ v < B ^ 232
theorem IsW.wb {W : World} {g : Nat} {less : Bool} {v : Nat} (h : IsW W g less v) : WB W g less (nw v) (fun j => (wd v j : Int)) := h.1
theorem IsW.bd {W : World} {g : Nat} {less : Bool} {v : Nat} (h : IsW W g less v) : nw v ≤ 232 := (YtlmdpamehhcblaaGreatDoorV.nw_le_iff v 232).2 h.2
theorem IsW.below {W W' : World} {g : Nat} {less : Bool} {v : Nat} (h : IsW W g less v) {b : Nat} (hb : Below b W W') (hg : g < b) : IsW W' g less v := ⟨h.1.below hb hg, h.2⟩
theorem IsW.grow {W W' : World} {g : Nat} {less : Bool} {v : Nat} (h : IsW W g less v) (hb : Below W.heap.size W W') : IsW W' g less v := ⟨h.1.grow hb, h.2⟩
theorem WB.fr {W W' : World} {g x : Nat} {less : Bool} {n : Int} {f : Nat → Int} (h : WB W g less n f) (hf : Fr x W W') (hg : g ≠ x) : WB W' g less n f := by
  have hl := h.lt
  unfold WB at *; rw [hf.block g hl hg]; exact h
theorem IsW.fr {W W' : World} {g x : Nat} {less : Bool} {v : Nat} (h : IsW W g less v) (hf : Fr x W W') (hg : g ≠ x) : IsW W' g less v := ⟨h.1.fr hf hg, h.2⟩
theorem IsW.drewN {W : World} {g : Nat} {less : Bool} {v : Nat} (h : IsW W g less v) (m : Nat) : IsW (W.drewN m) g less v := h
theorem IsW.zero {W : World} {g : Nat} {b : Bool} (h : WB W g b 0 (fun _ => 0)) : IsW W g b 0 := by
  refine ⟨?_, Nat.pow_pos YtlmdpamehhcblaaGreatDoorV.B_pos⟩
  rw [YtlmdpamehhcblaaGreatDoorV.nw_zero]
  exact h.ext (fun j _ => by rw [YtlmdpamehhcblaaGreatDoorV.wd_zero_of (by rw [YtlmdpamehhcblaaGreatDoorV.nw_zero]; omega)]; rfl)
/-- The words one place up, the first m of them; word 0 stays. -/
def shf (f : Nat → Int) (m : Nat) : Nat → Int := fun j => if 1 ≤ j ∧ j ≤ m then f (j - 1) else f j
theorem wcells_toList (less : Bool) (n : Int) (f : Nat → Int) : (wcells less n f).toList = .bool less :: .int .i64 n :: (List.range 232).map (fun j => Value.int .i64 (f j)) := rfl
theorem splice_wcells (less : Bool) (n : Int) (f : Nat → Int) (m : Nat) (hm : m ≤ 231) :
    (splice (wcells less n f).toList 3 ((List.range m).map fun j => Value.int .i64 (f j))).toArray = wcells less n (shf f m) := by
  apply Array.ext_getElem?
  intro j
  have hl : (wcells less n f).toList.length = 234 := by rw [wcells_toList]; simp
  rw [List.getElem?_toArray, ← Array.getElem?_toList]
  unfold splice
  have e2 : ∀ (g : Nat → Int) (k : Nat), (wcells less n g).toList[k]? = if k = 0 then some (.bool less) else if k = 1 then some (.int .i64 n) else if k < 234 then some (.int .i64 (g (k - 2))) else none := by
    intro g k
    rw [wcells_toList]
    match k with
    | 0 => rfl
    | 1 => rfl
    | k + 2 =>
      simp only [List.getElem?_cons_succ, List.getElem?_map, Nat.add_sub_cancel]
      rw [if_neg (by omega), if_neg (by omega)]
      by_cases h : k < 232
      · rw [if_pos (by omega), List.getElem?_range h]; rfl
      · rw [if_neg (by omega), List.getElem?_eq_none (by simp; omega)]; rfl
  rw [e2 (shf f m)]
  by_cases h3 : j < 3
  · rw [List.getElem?_append_left (by rw [List.length_take, hl]; omega), List.getElem?_take, if_pos h3, e2 f]
    match j, h3 with
    | 0, _ => rfl
    | 1, _ => rfl
    | 2, _ => rfl
  · rw [List.getElem?_append_right (by rw [List.length_take, hl]; omega), List.length_take, hl, show min 3 234 = 3 from rfl]
    by_cases h4 : j - 3 < m
    · rw [List.getElem?_append_left (by simpa using h4), List.getElem?_map, List.getElem?_range h4, if_neg (by omega), if_neg (by omega), if_pos (by omega)]
      unfold shf
      rw [if_pos (by omega), show j - 2 - 1 = j - 3 by omega]; rfl
    · rw [List.getElem?_append_right (by simp; omega), List.length_map, List.length_range, List.getElem?_drop, e2 f, show 3 + m + (j - 3 - m) = j by omega, if_neg (by omega), if_neg (by omega)]
      unfold shf
      rw [if_neg (show ¬ (1 ≤ j - 2 ∧ j - 2 ≤ m) by omega), if_neg (show ¬ j = 0 by omega), if_neg (show ¬ j = 1 by omega)]
theorem IsW.push {W : World} {g : Nat} {less : Bool} {R x m : Nat} (h : WB W g less m (upd (shf (fun j => (wd R j : Int)) (nw R)) 0 x)) (hx : x < B) (hR : nw R ≤ 230)
    (h0 : ∀ j, m ≤ j → j < nw R + 1 → upd (shf (fun j => (wd R j : Int)) (nw R)) 0 x j = 0) (h1 : m ≠ 0 → upd (shf (fun j => (wd R j : Int)) (nw R)) 0 x (m - 1) ≠ 0) : IsW W g less (R * B + x) := by
  have e : ∀ j, upd (shf (fun j => (wd R j : Int)) (nw R)) 0 x j = (wd (R * B + x) j : Int) := by
    intro j
    match j with
    | 0 => rw [YtlmdpamehhcblaaGreatDoorV.upd_same, YtlmdpamehhcblaaGreatDoorV.wd_push_zero _ _ hx]
    | j + 1 =>
      rw [YtlmdpamehhcblaaGreatDoorV.upd_other _ _ (by omega), YtlmdpamehhcblaaGreatDoorV.wd_push_succ _ _ _ hx]
      unfold shf
      by_cases hj : j + 1 ≤ nw R
      · rw [if_pos ⟨by omega, hj⟩]; rfl
      · rw [if_neg (by omega)]
        show (wd R (j + 1) : Int) = (wd R j : Int)
        rw [YtlmdpamehhcblaaGreatDoorV.wd_zero_of (show nw R ≤ j + 1 by omega), YtlmdpamehhcblaaGreatDoorV.wd_zero_of (show nw R ≤ j by omega)]
  have hn := YtlmdpamehhcblaaGreatDoorV.nw_push R x hx
  have hm : m = nw (R * B + x) := YtlmdpamehhcblaaGreatDoorV.nw_eq (fun j hj => by
    by_cases h2 : j < nw R + 1
    · have := h0 j hj h2; rw [e] at this; omega
    · exact YtlmdpamehhcblaaGreatDoorV.wd_zero_of (by omega)) (fun h2 => by have := h1 h2; rw [e] at this; omega)
  refine ⟨?_, (YtlmdpamehhcblaaGreatDoorV.nw_le_iff _ _).1 (by omega)⟩
  rw [← hm]
  exact h.ext (fun j _ => e j)
end Go.Proofs.YtlmdpamehhcblaaGreatDoor
