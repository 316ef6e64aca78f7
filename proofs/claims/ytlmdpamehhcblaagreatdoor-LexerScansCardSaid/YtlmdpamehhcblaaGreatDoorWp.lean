import Derived.Test.YtlmdpamehhcblaaGreatDoorBase
import Derived.Laws.CopyOwn
/- Contracts of package whole: what needs no memory: sign, opposite. -/
namespace Go.Proofs.YtlmdpamehhcblaaGreatDoor
open Go.RowKit
open Go.Lib (itoa decDigits)

theorem itoa_zero_iff (n : Int) : ((bs (itoa n)).toList == [48]) = decide (n = 0) := by
  rw [bs_toList, Bool.eq_iff_iff, beq_iff_eq, decide_eq_true_iff]
  constructor
  · intro h
    have : itoa n = itoa 0 := by rw [h]; rw [show (0 : Int) = ((0 : Nat) : Int) from rfl, YtlmdpamehhcblaaGreatDoorD.itoa_nat, YtlmdpamehhcblaaGreatDoorD.decDigits_small (by decide)]; rfl
    exact YtlmdpamehhcblaaGreatDoorD.itoa_inj this
  · intro h; subst h
    rw [show (0 : Int) = ((0 : Nat) : Int) from rfl, YtlmdpamehhcblaaGreatDoorD.itoa_nat, YtlmdpamehhcblaaGreatDoorD.decDigits_small (by decide)]; rfl
theorem itoa_pos (n : Int) : 0 < (bs (itoa n)).size := by
  rw [bs_size]; exact List.length_pos_iff.2 (YtlmdpamehhcblaaGreatDoorD.itoa_ne n)
theorem get0_45 : ∀ (l : List UInt8) (h : 0 < (bs l).size), (((bs l)[0].toNat : Int) == 45) = (l.head? == some 45)
  | [], h => by simp [bs_size] at h
  | c :: r, h => by
    rw [Bool.eq_iff_iff, beq_iff_eq, beq_iff_eq, List.head?_cons, Option.some.injEq]
    show ((c.toNat : Int) = 45) ↔ c = 45
    constructor
    · intro hc
      have : c.toNat = (45 : UInt8).toNat := by simp; omega
      exact UInt8.toNat_inj.1 this
    · intro hc; rw [hc]; rfl
theorem itoa_neg_iff (n : Int) (h : 0 < (bs (itoa n)).size) : (((bs (itoa n))[0].toNat : Int) == 45) = decide (n < 0) := by
  rw [get0_45, ← YtlmdpamehhcblaaGreatDoorD.minus_itoa n]; rfl

set_option maxHeartbeats 400000 in
theorem sign_c (n : Int) (w : World) : Calls Tryz.prog 177 #[.string (bs (itoa n))] w fun e w' => e = .returned (.int .i64 n.sign) ∧ w = w' := by
  have h0 := itoa_pos n
  have h1 := itoa_zero_iff n
  have h2 := itoa_neg_iff n h0
  generalize bs (itoa n) = s at *
  rcases Int.lt_trichotomy n 0 with hn | hn | hn
  · rw [decide_eq_false (by omega)] at h1; rw [decide_eq_true hn] at h2
    have e := Int.sign_eq_neg_one_of_neg hn
    rw [e]; clear hn e
    go_enter Tryz.func177, Tryz.ntmps177
    go_wp2
    go_ret
    exact ⟨rfl, rfl⟩
  · rw [decide_eq_true hn] at h1; subst hn; clear h2
    go_enter Tryz.func177, Tryz.ntmps177
    go_wp2
    go_ret
    exact ⟨rfl, rfl⟩
  · rw [decide_eq_false (by omega)] at h1; rw [decide_eq_false (by omega)] at h2
    have e := Int.sign_eq_one_of_pos hn
    rw [e]; clear hn e
    go_enter Tryz.func177, Tryz.ntmps177
    go_wp2
    go_ret
    exact ⟨rfl, rfl⟩
end Go.Proofs.YtlmdpamehhcblaaGreatDoor
/- The memory of a wide: one block of 234 cells: the sign, the number of words, the words. -/
namespace Go.Proofs.YtlmdpamehhcblaaGreatDoor
open Go.RowKit
open YtlmdpamehhcblaaGreatDoorV (wd nw B upd)

/-- The cells of a wide with words f. -/
def wcells (less : Bool) (n : Int) (f : Nat → Int) : Array Value := ((.bool less :: .int .i64 n :: (List.range 232).map (fun j => Value.int .i64 (f j))) : List Value).toArray
theorem wcells_size (less : Bool) (n : Int) (f : Nat → Int) : (wcells less n f).size = 234 := by simp [wcells]
theorem wcells_zero (b : Bool) : Tryz.zeroCells136.setIfInBounds 0 (.bool b) = wcells b 0 (fun _ => 0) := by cases b <;> kernel_rfl
theorem wcells_zero' : Tryz.zeroCells136 = wcells false 0 (fun _ => 0) := by kernel_rfl
/-- Block g holds a wide with words f. -/
def WB (W : World) (g : Nat) (less : Bool) (n : Int) (f : Nat → Int) : Prop := W.heap[g]? = some (.cells (wcells less n f) 136 (0, 0))
theorem wcells_get0 (less : Bool) (n : Int) (f : Nat → Int) : (wcells less n f)[0]? = some (.bool less) := by simp [wcells]
theorem wcells_get1 (less : Bool) (n : Int) (f : Nat → Int) : (wcells less n f)[1]? = some (.int .i64 n) := by simp [wcells]
theorem wcells_get (less : Bool) (n : Int) (f : Nat → Int) (i : Nat) (h : i < 232) : (wcells less n f)[i + 2]? = some (.int .i64 (f i)) := by
  simp [wcells, List.getElem?_cons_succ, h]
theorem WB.cell {W : World} {g : Nat} {less : Bool} {n : Int} {f : Nat → Int} (h : WB W g less n f) (i : Nat) : W.cell? ⟨g, i, none⟩ = (wcells less n f)[i]? := by
  unfold WB at h; simp [World.cell?, h]
theorem WB.c0 {W : World} {g : Nat} {less : Bool} {n : Int} {f : Nat → Int} (h : WB W g less n f) : W.cell? ⟨g, 0, none⟩ = some (.bool less) := by rw [h.cell, wcells_get0]
theorem WB.c1 {W : World} {g : Nat} {less : Bool} {n : Int} {f : Nat → Int} (h : WB W g less n f) : W.cell? ⟨g, 1, none⟩ = some (.int .i64 n) := by rw [h.cell, wcells_get1]
theorem WB.cw {W : World} {g : Nat} {less : Bool} {n : Int} {f : Nat → Int} (h : WB W g less n f) (i : Nat) (hi : i < 232) : W.cell? ⟨g, 2 + i, none⟩ = some (.int .i64 (f i)) := by rw [h.cell, Nat.add_comm, wcells_get _ _ _ _ hi]
theorem WB.fz {W : World} {g : Nat} {less : Bool} {n : Int} {f : Nat → Int} (h : WB W g less n f) (i : Nat) : W.frozen? ⟨g, i, none⟩ = false := by
  unfold WB at h; simp [World.frozen?, h]
theorem WB.lt {W : World} {g : Nat} {less : Bool} {n : Int} {f : Nat → Int} (h : WB W g less n f) : g < W.heap.size := by
  unfold WB at h; exact (Array.getElem?_eq_some_iff.1 h).1
theorem wcells_ext (less : Bool) (n : Int) {f f' : Nat → Int} (h : ∀ j, j < 232 → f j = f' j) : wcells less n f = wcells less n f' := by
  unfold wcells; congr 3
  apply List.map_congr_left
  intro j hj; rw [h j (List.mem_range.1 hj)]
theorem WB.ext {W : World} {g : Nat} {less : Bool} {n : Int} {f f' : Nat → Int} (h : WB W g less n f) (e : ∀ j, j < 232 → f j = f' j) : WB W g less n f' := by
  unfold WB at *; rw [h, wcells_ext less n e]
theorem wcells_set0 (less b : Bool) (n : Int) (f : Nat → Int) : (wcells less n f).setIfInBounds 0 (.bool b) = wcells b n f := by simp [wcells]
theorem wcells_set1 (less : Bool) (n m : Int) (f : Nat → Int) : (wcells less n f).setIfInBounds 1 (.int .i64 m) = wcells less m f := by simp [wcells]
theorem wcells_set (less : Bool) (n v : Int) (f : Nat → Int) (i : Nat) (hi : i < 232) : (wcells less n f).setIfInBounds (2 + i) (.int .i64 v) = wcells less n (upd f i v) := by
  apply Array.ext_getElem?
  intro j
  rw [Array.getElem?_setIfInBounds]
  by_cases e : 2 + i = j
  · subst e
    rw [if_pos rfl, if_pos (by rw [wcells_size]; omega), Nat.add_comm 2 i, wcells_get _ _ _ _ hi, YtlmdpamehhcblaaGreatDoorV.upd_same]
  · rw [if_neg e]
    match j with
    | 0 => rw [wcells_get0, wcells_get0]
    | 1 => rw [wcells_get1, wcells_get1]
    | j + 2 =>
      by_cases hj : j < 232
      · rw [wcells_get _ _ _ _ hj, wcells_get _ _ _ _ hj, YtlmdpamehhcblaaGreatDoorV.upd_other _ _ (by omega)]
      · rw [Array.getElem?_eq_none (by rw [wcells_size]; omega), Array.getElem?_eq_none (by rw [wcells_size]; omega)]
theorem setCell_heap (W : World) (g i : Nat) (v : Value) (cs : Array Value) (t : TypeId) (fr : Nat × Nat) (h : W.heap[g]? = some (.cells cs t fr)) :
    (W.setCell ⟨g, i, none⟩ v).heap[g]? = some (.cells (cs.setIfInBounds i v) t fr) := by
  simp [World.setCell, h, Array.getElem?_modify]
theorem WB.set0 {W : World} {g : Nat} {less : Bool} {n : Int} {f : Nat → Int} (h : WB W g less n f) (b : Bool) : WB (W.setCell ⟨g, 0, none⟩ (.bool b)) g b n f := by
  unfold WB at *; rw [setCell_heap _ _ _ _ _ _ _ h, wcells_set0]
theorem WB.set1 {W : World} {g : Nat} {less : Bool} {n : Int} {f : Nat → Int} (h : WB W g less n f) (m : Int) : WB (W.setCell ⟨g, 1, none⟩ (.int .i64 m)) g less m f := by
  unfold WB at *; rw [setCell_heap _ _ _ _ _ _ _ h, wcells_set1]
theorem WB.setw {W : World} {g : Nat} {less : Bool} {n : Int} {f : Nat → Int} (h : WB W g less n f) (i : Nat) (hi : i < 232) (v : Int) : WB (W.setCell ⟨g, 2 + i, none⟩ (.int .i64 v)) g less n (upd f i v) := by
  unfold WB at *; rw [setCell_heap _ _ _ _ _ _ _ h, wcells_set _ _ _ _ _ hi]
theorem WB.far {W : World} {g : Nat} {less : Bool} {n : Int} {f : Nat → Int} (h : WB W g less n f) {p : Addr} (hp : g ≠ p.block) (v : Value) : WB (W.setCell p v) g less n f := by
  unfold WB at *; rw [Below.heap_setCell _ _ _ _ hp]; exact h
theorem WB.below {W W' : World} {g : Nat} {less : Bool} {n : Int} {f : Nat → Int} (h : WB W g less n f) {b : Nat} (hb : Below b W W') (hg : g < b) : WB W' g less n f := by
  unfold WB at *; rw [hb.block g hg]; exact h
theorem WB.grow {W W' : World} {g : Nat} {less : Bool} {n : Int} {f : Nat → Int} (h : WB W g less n f) (hb : Below W.heap.size W W') : WB W' g less n f := h.below hb h.lt
theorem WB.alloc {W : World} {g : Nat} {less : Bool} {n : Int} {f : Nat → Int} (h : WB W g less n f) (o : Obj) : WB (W.alloc o) g less n f := h.grow ((Below.refl _ _).alloc (Nat.le_refl _) o)
theorem WB.drewN {W : World} {g : Nat} {less : Bool} {n : Int} {f : Nat → Int} (h : WB W g less n f) (m : Nat) : WB (W.drewN m) g less n f := h
theorem WB.drew {W : World} {g : Nat} {less : Bool} {n : Int} {f : Nat → Int} (h : WB W g less n f) : WB W.drew g less n f := h
theorem WB.new (W : World) (b : Bool) : WB (W.alloc (.cells (Tryz.zeroCells136.setIfInBounds 0 (.bool b)) 136)) W.heap.size b 0 (fun _ => 0) := by
  unfold WB
  rw [wcells_zero]
  show (W.heap.push _)[W.heap.size]? = _
  simp
theorem WB.new' (W : World) : WB (W.alloc (.cells Tryz.zeroCells136 136)) W.heap.size false 0 (fun _ => 0) := by
  unfold WB
  rw [wcells_zero']
  show (W.heap.push _)[W.heap.size]? = _
  simp
/-- Block g holds the number (less, v). -/
def IsW (W : World) (g : Nat) (less : Bool) (v : Nat) : Prop := WB W g less (nw v) (fun j => (wd v j : Int)) ∧ v < B ^ 232
theorem IsW.wb {W : World} {g : Nat} {less : Bool} {v : Nat} (h : IsW W g less v) : WB W g less (nw v) (fun j => (wd v j : Int)) := h.1
theorem IsW.bd {W : World} {g : Nat} {less : Bool} {v : Nat} (h : IsW W g less v) : nw v ≤ 232 := (YtlmdpamehhcblaaGreatDoorV.nw_le_iff v 232).2 h.2
theorem IsW.below {W W' : World} {g : Nat} {less : Bool} {v : Nat} (h : IsW W g less v) {b : Nat} (hb : Below b W W') (hg : g < b) : IsW W' g less v := ⟨h.1.below hb hg, h.2⟩
theorem IsW.grow {W W' : World} {g : Nat} {less : Bool} {v : Nat} (h : IsW W g less v) (hb : Below W.heap.size W W') : IsW W' g less v := ⟨h.1.grow hb, h.2⟩
theorem WB.fr {W W' : World} {g x : Nat} {less : Bool} {n : Int} {f : Nat → Int} (h : WB W g less n f) (hf : Fr x W W') (hg : g ≠ x) : WB W' g less n f := by
  have hl := h.lt
  unfold WB at *; rw [hf.block g hl hg]; exact h
theorem IsW.fr {W W' : World} {g x : Nat} {less : Bool} {v : Nat} (h : IsW W g less v) (hf : Fr x W W') (hg : g ≠ x) : IsW W' g less v := ⟨h.1.fr hf hg, h.2⟩
theorem IsW.drewN {W : World} {g : Nat} {less : Bool} {v : Nat} (h : IsW W g less v) (m : Nat) : IsW (W.drewN m) g less v := h
theorem IsW.zero {W : World} {g : Nat} {b : Bool} (h : WB W g b 0 (fun _ => 0)) : IsW W g b 0 := by
  refine ⟨?_, Nat.pow_pos YtlmdpamehhcblaaGreatDoorV.B_pos⟩
  rw [YtlmdpamehhcblaaGreatDoorV.nw_zero]
  exact h.ext (fun j _ => by rw [YtlmdpamehhcblaaGreatDoorV.wd_zero_of (by rw [YtlmdpamehhcblaaGreatDoorV.nw_zero]; omega)]; rfl)
/-- The words one place up, the first m of them; word 0 stays. -/
def shf (f : Nat → Int) (m : Nat) : Nat → Int := fun j => if 1 ≤ j ∧ j ≤ m then f (j - 1) else f j
theorem wcells_toList (less : Bool) (n : Int) (f : Nat → Int) : (wcells less n f).toList = .bool less :: .int .i64 n :: (List.range 232).map (fun j => Value.int .i64 (f j)) := rfl
theorem splice_wcells (less : Bool) (n : Int) (f : Nat → Int) (m : Nat) (hm : m ≤ 231) :
    (splice (wcells less n f).toList 3 ((List.range m).map fun j => Value.int .i64 (f j))).toArray = wcells less n (shf f m) := by
  apply Array.ext_getElem?
  intro j
  have hl : (wcells less n f).toList.length = 234 := by rw [wcells_toList]; simp
  rw [List.getElem?_toArray, ← Array.getElem?_toList]
  unfold splice
  have e2 : ∀ (g : Nat → Int) (k : Nat), (wcells less n g).toList[k]? = if k = 0 then some (.bool less) else if k = 1 then some (.int .i64 n) else if k < 234 then some (.int .i64 (g (k - 2))) else none := by
    intro g k
    rw [wcells_toList]
    match k with
    | 0 => rfl
    | 1 => rfl
    | k + 2 =>
      simp only [List.getElem?_cons_succ, List.getElem?_map, Nat.add_sub_cancel]
      rw [if_neg (by omega), if_neg (by omega)]
      by_cases h : k < 232
      · rw [if_pos (by omega), List.getElem?_range h]; rfl
      · rw [if_neg (by omega), List.getElem?_eq_none (by simp; omega)]; rfl
  rw [e2 (shf f m)]
  by_cases h3 : j < 3
  · rw [List.getElem?_append_left (by rw [List.length_take, hl]; omega), List.getElem?_take, if_pos h3, e2 f]
    match j, h3 with
    | 0, _ => rfl
    | 1, _ => rfl
    | 2, _ => rfl
  · rw [List.getElem?_append_right (by rw [List.length_take, hl]; omega), List.length_take, hl, show min 3 234 = 3 from rfl]
    by_cases h4 : j - 3 < m
    · rw [List.getElem?_append_left (by simpa using h4), List.getElem?_map, List.getElem?_range h4, if_neg (by omega), if_neg (by omega), if_pos (by omega)]
      unfold shf
      rw [if_pos (by omega), show j - 2 - 1 = j - 3 by omega]; rfl
    · rw [List.getElem?_append_right (by simp; omega), List.length_map, List.length_range, List.getElem?_drop, e2 f, show 3 + m + (j - 3 - m) = j by omega, if_neg (by omega), if_neg (by omega)]
      unfold shf
      rw [if_neg (show ¬ (1 ≤ j - 2 ∧ j - 2 ≤ m) by omega), if_neg (show ¬ j = 0 by omega), if_neg (show ¬ j = 1 by omega)]
theorem IsW.push {W : World} {g : Nat} {less : Bool} {R x m : Nat} (h : WB W g less m (upd (shf (fun j => (wd R j : Int)) (nw R)) 0 x)) (hx : x < B) (hR : nw R ≤ 230)
    (h0 : ∀ j, m ≤ j → j < nw R + 1 → upd (shf (fun j => (wd R j : Int)) (nw R)) 0 x j = 0) (h1 : m ≠ 0 → upd (shf (fun j => (wd R j : Int)) (nw R)) 0 x (m - 1) ≠ 0) : IsW W g less (R * B + x) := by
  have e : ∀ j, upd (shf (fun j => (wd R j : Int)) (nw R)) 0 x j = (wd (R * B + x) j : Int) := by
    intro j
    match j with
    | 0 => rw [YtlmdpamehhcblaaGreatDoorV.upd_same, YtlmdpamehhcblaaGreatDoorV.wd_push_zero _ _ hx]
    | j + 1 =>
      rw [YtlmdpamehhcblaaGreatDoorV.upd_other _ _ (by omega), YtlmdpamehhcblaaGreatDoorV.wd_push_succ _ _ _ hx]
      unfold shf
      by_cases hj : j + 1 ≤ nw R
      · rw [if_pos ⟨by omega, hj⟩]; rfl
      · rw [if_neg (by omega)]
        show (wd R (j + 1) : Int) = (wd R j : Int)
        rw [YtlmdpamehhcblaaGreatDoorV.wd_zero_of (show nw R ≤ j + 1 by omega), YtlmdpamehhcblaaGreatDoorV.wd_zero_of (show nw R ≤ j by omega)]
  have hn := YtlmdpamehhcblaaGreatDoorV.nw_push R x hx
  have hm : m = nw (R * B + x) := YtlmdpamehhcblaaGreatDoorV.nw_eq (fun j hj => by
    by_cases h2 : j < nw R + 1
    · have := h0 j hj h2; rw [e] at this; omega
    · exact YtlmdpamehhcblaaGreatDoorV.wd_zero_of (by omega)) (fun h2 => by have := h1 h2; rw [e] at this; omega)
  refine ⟨?_, (YtlmdpamehhcblaaGreatDoorV.nw_le_iff _ _).1 (by omega)⟩
  rw [← hm]
  exact h.ext (fun j _ => e j)
end Go.Proofs.YtlmdpamehhcblaaGreatDoor
/- Contracts of package whole: trimmed. -/
namespace Go.Proofs.YtlmdpamehhcblaaGreatDoor
open Go.RowKit
open YtlmdpamehhcblaaGreatDoorV (wd nw B upd)

/-- What trimmed leaves. -/
def Trim (w : World) (g : Nat) (less : Bool) (n : Nat) (f : Nat → Int) (e : Ending) (w' : World) : Prop :=
  e = .returned (.pointer (some ⟨g, 0, none⟩)) ∧ ∃ m : Nat, m ≤ n ∧ WB w' g less m f ∧ (∀ j, m ≤ j → j < n → f j = 0) ∧ (m ≠ 0 → f (m - 1) ≠ 0) ∧ Fr g w w'

set_option maxHeartbeats 1000000 in
set_option maxRecDepth 100000 in
theorem trimmed_c (w : World) (g : Nat) (less : Bool) (n : Nat) (f : Nat → Int) (hw : WB w g less n f) (hn : n ≤ 232) :
    Calls Tryz.prog 179 #[.pointer (some ⟨g, 0, none⟩)] w (Trim w g less n f) := by
  have HW := Lib.hid hw; clear hw
  go_enter Tryz.func179, Tryz.ntmps179
  go_wp2
  go_loopg [] n (fun k wr => k ≤ n ∧ Aside (WB wr g less k f ∧ (∀ j, k ≤ j → j < n → f j = 0)) ∧ Fr g w wr)
  case atStart => exact ⟨Nat.le_refl _, ⟨HW.out, fun j h1 h2 => by omega⟩, Fr.refl _ _⟩
  case round =>
    obtain ⟨hk, A, hfr⟩ := hrel
    have c1 := A.out.1.c1
    have f1 := A.out.1.fz 1
    by_cases h0 : gk = 0
    · subst h0
      go_wp2_with fail
      go_quiet (fail)
      go_wp2
      go_ret
      exact ⟨rfl, 0, by omega, A.out.1, A.out.2, fun h => absurd rfl h, hfr.drewN _⟩
    · obtain ⟨m, rfl⟩ : ∃ m, gk = m + 1 := ⟨gk - 1, by omega⟩
      have cw := A.out.1.cw m (by omega)
      have hm : m ≤ 232 := by omega
      by_cases hz : f m = 0
      · rw [hz] at cw
        go_wp2_with fail
        go_quiet (fail)
        go_wp2
        go_roundg m
        case measure => omega
        case rel =>
          refine ⟨by omega, ⟨?_, fun j h1 h2 => ?_⟩, ?_⟩
          · have := (A.out.1.drewN nq).set1 m
            simpa using this
          · by_cases e : j = m
            · rw [e]; exact hz
            · exact A.out.2 j (by omega) h2
          · exact (hfr.drewN _).setCell rfl _
      · have hz' : (f m == 0) = false := by simpa using hz
        go_wp2_with fail
        go_quiet (fail)
        go_wp2
        go_ret
        exact ⟨rfl, m + 1, by omega, A.out.1, A.out.2, fun _ => hz, hfr.drewN _⟩
end Go.Proofs.YtlmdpamehhcblaaGreatDoor
/- Contracts of package whole: carry. -/
namespace Go.Proofs.YtlmdpamehhcblaaGreatDoor
open Go.RowKit
open YtlmdpamehhcblaaGreatDoorV (wd nw B upd CInv B_eq)

theorem mul_word_bd {k : Int} {d : Nat} (h0 : -(B : Int) < k) (h1 : k < (B : Int)) (hd : d < B) : -1000000000000000000 ≤ k * (d : Int) ∧ k * (d : Int) ≤ 1000000000000000000 := by
  rw [B_eq] at *
  have x1 : -(1000000000 : Int) * (d : Int) ≤ k * (d : Int) := Int.mul_le_mul_of_nonneg_right (by simp at h0; omega) (by omega)
  have x2 : k * (d : Int) ≤ (1000000000 : Int) * (d : Int) := Int.mul_le_mul_of_nonneg_right (by simp at h1; omega) (by omega)
  omega
/-- The numbers of one round: q is Go's quotient, r Go's rest. -/
theorem carry_nums (S : Int) (h0 : -1000000010000000000 ≤ S) (h1 : S ≤ 1000000010000000000) : -2000000000 ≤ S.tdiv 1000000000 ∧ S.tdiv 1000000000 ≤ 2000000000 ∧ -1000000000 < S - S.tdiv 1000000000 * 1000000000 ∧ S - S.tdiv 1000000000 * 1000000000 < 1000000000 := by
  have h2 := Int.mul_tdiv_add_tmod S 1000000000
  have h3 : S.tmod 1000000000 < 1000000000 := Int.tmod_lt_of_pos S (by decide)
  have h4 : -1000000000 < S.tmod 1000000000 := by
    have := Int.lt_tmod_of_pos S (show (0 : Int) < 1000000000 by decide)
    omega
  omega
/-- What carry's loop keeps. -/
def CRel (X Y : Nat) (k : Int) (s gx gy : Nat) (lx ly : Bool) (w : World) (j : Nat) (rest : Int) (f : Nat → Int) (n : Nat) (wr : World) : Prop :=
  CInv X Y k s j rest f n ∧ WB wr gx lx n f ∧ WB wr gy ly (nw Y) (fun j => (wd Y j : Int)) ∧ Fr gx w wr
theorem CRel.step {X Y : Nat} {k : Int} {s gx gy : Nat} {lx ly : Bool} {w : World} {j : Nat} {rest : Int} {f : Nat → Int} {n : Nat} {wr : World} (h : CRel X Y k s gx gy lx ly w j rest f n wr)
    (hne : gy ≠ gx) (hk0 : -(B : Int) < k) (hk1 : k < (B : Int)) (hr : j + s < 232) {q r m : Int} (hq : q * 1000000000 + r = f (j + s) + rest + k * (wd Y j : Nat)) (hr0 : 0 ≤ r) (hr1 : r < 1000000000) (hm : m = (max n (j + s + 1) : Nat)) :
    CRel X Y k s gx gy lx ly w (j + 1) q (upd f (j + s) r) (max n (j + s + 1)) ((wr.setCell ⟨gx, 2 + (j + s), none⟩ (.int .i64 r)).setCell ⟨gx, 1, none⟩ (.int .i64 m)) := by
  obtain ⟨h1, h2, h3, h4⟩ := h
  refine ⟨h1.step hk0 hk1 hr (by rw [B_eq]; exact hq) hr0 (by rw [B_eq]; exact hr1), ?_, (h3.far hne _).far hne _, (h4.setCell rfl _).setCell rfl _⟩
  rw [hm]
  exact (h2.setw (j + s) hr r).set1 _

set_option maxHeartbeats 2000000 in
set_option maxRecDepth 100000 in
theorem carry_loop (w : World) (gx gy : Nat) (lx ly : Bool) (X Y : Nat) (k : Int) (s V : Nat) (hx : IsW w gx lx X) (hy : IsW w gy ly Y) (hne : gy ≠ gx) (hs : nw Y + s ≤ 232) (hk0 : -1000000000 < k) (hk1 : k < 1000000000)
    (hV : (V : Int) = X + k * Y * (B ^ s : Nat)) (hVB : V < B ^ 232) :
    Calls Tryz.prog 180 #[.pointer (some ⟨gx, 0, none⟩), .pointer (some ⟨gy, 0, none⟩), .int .i64 k, .int .i64 s] w fun e w' => e = .returned (.tuple #[]) ∧ IsW w' gx lx V ∧ Fr gx w w' := by
  have hs2 : s ≤ 232 := by omega
  have Hk0 := Lib.hid (show -(B : Int) < k by rw [B_eq]; exact hk0)
  have Hk1 := Lib.hid (show k < (B : Int) by rw [B_eq]; exact hk1)
  have HV := Lib.hid hV; have HVB := Lib.hid hVB; clear hV hVB
  have Hx := Lib.hid hx; have Hy := Lib.hid hy; clear hx hy
  have hyb := Hy.out.bd
  have Hroom : Hid (0 ≤ (X : Int) + k * Y * (B ^ s : Nat) ∧ (X : Int) + k * Y * (B ^ s : Nat) < (B ^ 232 : Nat)) := by
    show _ ∧ _
    rw [← HV.out]; exact ⟨by omega, Int.ofNat_lt.2 HVB.out⟩
  go_enter Tryz.func180, Tryz.ntmps180
  go_wp2_with fail
  go_loopg [8, 9] 233 (fun gk r i wr => ∃ (j : Nat) (rest : Int) (f : Nat → Int) (n : Nat), gk + j = 233 ∧ i = .int .i64 j ∧ r = .int .i64 rest ∧ Aside (CRel X Y k s gx gy lx ly w j rest f n wr))
  case atStart => exact ⟨0, 0, _, _, rfl, rfl, rfl, CInv.start k s Hx.out.bd, Hx.out.1, Hy.out.1, Fr.refl _ _⟩
  case round =>
    obtain ⟨j, rest, f, n, hgk, rfl, rfl, A⟩ := hrel
    have HG := Lib.hid hgk; clear hgk
    have c1 := A.out.2.1.c1
    have y1 := A.out.2.2.1.c1
    have f1 := A.out.2.1.fz 1
    have hn := A.out.1.le
    have r0 := A.out.1.r0
    have r1 := A.out.1.r1
    have hr0 : -1000000000 ≤ rest := by rw [B_eq] at r0; exact r0
    have hr1 : rest ≤ 1000000000 := by rw [B_eq] at r1; exact r1
    clear r0 r1
    by_cases hgo : j < nw Y ∨ rest ≠ 0
    · have hroom := A.out.1.room hs Hroom.out.1 Hroom.out.2 hgo
      have cw := A.out.2.1.cw (j + s) hroom
      have fw := A.out.2.1.fz (2 + (j + s))
      have a0 := A.out.1.lo (j + s)
      have a1 : f (j + s) < 1000000000 := by have := A.out.1.hi (j + s); rw [B_eq] at this; exact this
      by_cases hj : j < nw Y
      · have yw := A.out.2.2.1.cw j (by omega)
        have m0 := (mul_word_bd Hk0.out Hk1.out (YtlmdpamehhcblaaGreatDoorV.wd_lt Y j)).1
        have m1 := (mul_word_bd Hk0.out Hk1.out (YtlmdpamehhcblaaGreatDoorV.wd_lt Y j)).2
        have q0 := carry_nums (f (j + s) + rest + k * (wd Y j : Int)) (by omega) (by omega)
        obtain ⟨q0, q1, q2, q3⟩ := q0
        by_cases hneg : f (j + s) + rest + k * (wd Y j : Int) - (f (j + s) + rest + k * (wd Y j : Int)).tdiv 1000000000 * 1000000000 < 0
        · go_wp2_with fail
          all_goals
            go_roundg (gk - 1)
            case measure => have := HG.out; omega
            case rel => exact ⟨j + 1, _, _, _, by have := HG.out; omega, by go_num, rfl, A.out.step hne Hk0.out Hk1.out hroom (by omega) (by omega) (by omega) (by omega)⟩
        · go_wp2_with fail
          all_goals
            go_roundg (gk - 1)
            case measure => have := HG.out; omega
            case rel => exact ⟨j + 1, _, _, _, by have := HG.out; omega, by go_num, rfl, A.out.step hne Hk0.out Hk1.out hroom (by omega) (by omega) (by omega) (by omega)⟩
      · have hrest : (rest != 0) = true := by rw [bne_iff_ne]; omega
        have HZ := Lib.hid (YtlmdpamehhcblaaGreatDoorV.wd_zero_of (v := Y) (i := j) (by omega))
        have q0 := carry_nums (f (j + s) + rest) (by omega) (by omega)
        obtain ⟨q0, q1, q2, q3⟩ := q0
        by_cases hneg : f (j + s) + rest - (f (j + s) + rest).tdiv 1000000000 * 1000000000 < 0
        · go_wp2_with fail
          all_goals
            go_roundg (gk - 1)
            case measure => have := HG.out; omega
            case rel => exact ⟨j + 1, _, _, _, by have := HG.out; omega, by go_num, rfl, A.out.step hne Hk0.out Hk1.out hroom (by rw [HZ.out]; simp only [Int.natCast_zero, Int.mul_zero]; omega) (by omega) (by omega) (by omega)⟩
        · go_wp2_with fail
          all_goals
            go_roundg (gk - 1)
            case measure => have := HG.out; omega
            case rel => exact ⟨j + 1, _, _, _, by have := HG.out; omega, by go_num, rfl, A.out.step hne Hk0.out Hk1.out hroom (by rw [HZ.out]; simp only [Int.natCast_zero, Int.mul_zero]; omega) (by omega) (by omega) (by omega)⟩
    · obtain ⟨hj, rfl⟩ : ¬ j < nw Y ∧ rest = 0 := by omega
      have D := A.out.1.done (by omega) HV.out
      have HD := Lib.hid D; clear D
      go_wp2_with fail
      refine (trimmed_c _ gx lx n f A.out.2.1 hn).mono ?_
      rintro e w' ⟨rfl, m, hm1, hm2, hm3, hm4, hm5⟩
      go_wp2
      go_end0
      refine ⟨rfl, ⟨?_, HVB.out⟩, A.out.2.2.2.trans hm5⟩
      obtain ⟨d1, d2, d3⟩ := HD.out
      have e : m = nw V := YtlmdpamehhcblaaGreatDoorV.nw_eq (fun i hi => by
        by_cases h : n ≤ i
        · exact d2 i h
        · have := d1 i (by omega); rw [hm3 i hi (by omega)] at this; omega) (fun h => by
        have := d1 (m - 1) (by omega); have h4 := hm4 h; omega)
      rw [← e]
      exact hm2.ext d1
end Go.Proofs.YtlmdpamehhcblaaGreatDoor
