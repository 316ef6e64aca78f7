import Derived.Test.YtlmdpamehhcblaaGreatDoorProg
import Derived.Handy
import Derived.WalkLawsBesides
import Derived.WalkSpells
import Derived.Outline
import Derived.Lib.Hide
import Derived.Lib.Strings
import Derived.BigQuiet
import Derived.Deep.QuietTactic
import Derived.Deep.DeepFit
import Derived.Deep.LoopGhost
import Derived.Deep.RegionHeld3
import Derived.StillTailTactics
import Derived.OwnWalk
import Derived.Deep.DeepCutAuto
import Derived.Deep.Draws
import Derived.Deep.Light
import Derived.Test.YtlmdpamehhcblaaGreatDoorPa
/- The common ground of the walks: strings as lists of bytes, what of the library's own variables the walks read. -/
namespace Go.Proofs.YtlmdpamehhcblaaGreatDoor
open Go.RowKit

/-- A string of bytes. -/
def bs (l : List UInt8) : ByteArray := ⟨l.toArray⟩
theorem bs_data (l : List UInt8) : (bs l).data.toList = l := rfl
theorem bs_toList (l : List UInt8) : (bs l).toList = l := by rw [Lib.toList_data, bs_data]
theorem bs_size (l : List UInt8) : (bs l).size = l.length := by rw [Lib.size_eq, bs_data]
theorem bs_of (s : ByteArray) : bs s.data.toList = s := Lib.mk_data s
theorem bs_inj {l m : List UInt8} (h : bs l = bs m) : l = m := by have := congrArg (fun s : ByteArray => s.data.toList) h; exact this
theorem bs_ex (s : ByteArray) : ∃ l, s = bs l := ⟨_, (bs_of s).symm⟩
theorem bs_get (l : List UInt8) (i : Nat) (h : i < (bs l).size) : (bs l)[i] = l[i]'(by rw [← bs_size]; exact h) := rfl
theorem bs_extract (l : List UInt8) (a b : Nat) : (bs l).extract a b = bs ((l.drop a).take (b - a)) := by rw [Lib.extract_eq, bs_data]; rfl
theorem bs_append (l m : List UInt8) : bs l ++ bs m = bs (l ++ m) := by
  rw [← bs_of (bs l ++ bs m)]; congr 1
theorem ret_int {k : IntKind} {a b : Int} (h : a = b) : Ending.returned (.int k a) = .returned (.int k b) := by rw [h]
theorem ret_str {a b : List UInt8} (h : a = b) : Ending.returned (.string (bs a)) = .returned (.string (bs b)) := by rw [h]
theorem bcell {W w1 : World} (hb : Below W.heap.size W w1) : (∀ b o, b < W.heap.size → w1.cell? ⟨b, o, none⟩ = W.cell? ⟨b, o, none⟩) ∧ (∀ b o, b < W.heap.size → w1.frozen? ⟨b, o, none⟩ = W.frozen? ⟨b, o, none⟩) :=
  ⟨fun b o h => hb.cell (p := ⟨b, o, none⟩) h, fun b o h => hb.frozen (p := ⟨b, o, none⟩) h⟩
/-- Of what was there, block g alone may have turned. -/
structure Fr (g : Nat) (w w' : World) : Prop where
  os : w'.os = w.os
  tape : w'.tape = w.tape
  output : w'.output = w.output
  size : w.heap.size ≤ w'.heap.size
  block : ∀ k, k < w.heap.size → k ≠ g → w'.heap[k]? = w.heap[k]?
theorem Fr.refl (g : Nat) (w : World) : Fr g w w := ⟨rfl, rfl, rfl, Nat.le_refl _, fun _ _ _ => rfl⟩
theorem Fr.trans {g : Nat} {a b c : World} (h : Fr g a b) (k : Fr g b c) : Fr g a c :=
  ⟨k.os.trans h.os, k.tape.trans h.tape, k.output.trans h.output, Nat.le_trans h.size k.size, fun i hi hg => (k.block i (Nat.lt_of_lt_of_le hi h.size) hg).trans (h.block i hi hg)⟩
theorem Fr.of {g : Nat} {w w' : World} (h : Below w.heap.size w w') : Fr g w w' := ⟨h.os, h.tape, h.output, h.size, fun k hk _ => h.block k hk⟩
theorem Fr.drew {g : Nat} {a w : World} (h : Fr g a w) : Fr g a w.drew := h.trans (Fr.of (Below.refl _ _).drew)
theorem Fr.drewN {g : Nat} {a w : World} (h : Fr g a w) (n : Nat) : Fr g a (w.drewN n) := h.trans ⟨rfl, rfl, rfl, Nat.le_refl _, fun _ _ _ => rfl⟩
theorem Fr.alloc {g : Nat} {a w : World} (h : Fr g a w) (o : Obj) : Fr g a (w.alloc o) := h.trans (Fr.of ((Below.refl _ _).alloc (Nat.le_refl _) o))
theorem Fr.setCell {g : Nat} {a w : World} (h : Fr g a w) {p : Addr} (hp : p.block = g) (u : Value) : Fr g a (w.setCell p u) :=
  h.trans ⟨rfl, rfl, rfl, by simp [World.setCell], fun k _ hk => Below.heap_setCell _ _ _ _ (by rw [hp]; exact hk)⟩
theorem Fr.below {g : Nat} {w w' : World} (h : Fr g w w') {b : Nat} (hb : b ≤ w.heap.size) (hg : b ≤ g) : Below b w w' := ⟨h.os, h.tape, h.output, h.size, fun k hk => h.block k (by omega) (by omega)⟩
theorem below_drewN (w : World) (n : Nat) : Below w.heap.size w (w.drewN n) := ⟨rfl, rfl, rfl, Nat.le_refl _, fun _ _ => rfl⟩
/-- Nothing that was there has turned. -/
def Gr (w w' : World) : Prop := Below w.heap.size w w'
theorem Gr.b {w w' : World} (h : Gr w w') : Below w.heap.size w w' := h
theorem Gr.refl (w : World) : Gr w w := Below.refl _ _
theorem Gr.trans {a b c : World} (h : Gr a b) (k : Gr b c) : Gr a c := Below.trans h (k.b.mono h.b.size)
theorem Gr.drew {a w : World} (h : Gr a w) : Gr a w.drew := Below.drew h
theorem Gr.drewN {a w : World} (h : Gr a w) (n : Nat) : Gr a (w.drewN n) := h.trans (below_drewN w n)
theorem Gr.alloc {a w : World} (h : Gr a w) (o : Obj) : Gr a (w.alloc o) := h.trans ((Below.refl _ _).alloc (Nat.le_refl _) o)
theorem Gr.fr {g : Nat} {a w w' : World} (h : Gr a w) (k : Fr g w w') (hg : a.heap.size ≤ g) : Gr a w' := Below.trans h (k.below h.b.size hg)
theorem Gr.setCell {a w : World} (h : Gr a w) {p : Addr} (hp : a.heap.size ≤ p.block) (u : Value) : Gr a (w.setCell p u) := Below.setCell h hp u
theorem Gr.size {a w : World} (h : Gr a w) : a.heap.size ≤ w.heap.size := h.b.size
theorem Gr.trans_below {a b c : World} {k : Nat} (h : Gr a b) (hb : Below k b c) (hk : a.heap.size ≤ k) : Gr a c := Below.trans h (hb.mono hk)
end Go.Proofs.YtlmdpamehhcblaaGreatDoor
