import Derived.Test.YtlmdpamehhcblaaGreatDoorLib
import Derived.Lib.FrozenHead
/- strings.Builder: the contracts in one form, over a builder that the call itself has made. -/
namespace Go.Proofs.YtlmdpamehhcblaaGreatDoor
open Go.RowKit

/-- The numbers at which the shelf's structures lie here. -/
def bren : Go.Shelf.Ren := ⟨fun | 167 => 126 | 166 => 127 | 169 => 129 | 170 => 128 | 240 => 197 | 276 => 234 | n => n, fun | 9 => 9 | 3 => 3 | 4 => 4 | 20 => 20 | 0 => 0 | 5 => 5 | 72 => 151 | 70 => 148 | 37 => 149 | 75 => 154 | 127 => 209 | 164 => 236 | 80 => 159 | n => n, fun | n => n⟩
theorem bl167 : Go.Proofs.Lays.n167 Tryz.prog bren := {
  mixed := by kernel_rfl
  f167 := Tryz.func126.trans (congrArg some (by kernel_rfl))
  f240 := Tryz.func197.trans (congrArg some (by kernel_rfl))
  f276 := Tryz.func234.trans (congrArg some (by kernel_rfl))
  t0 := Tryz.underlying0
  a0 := Tryz.isAgg0
  z0 := Tryz.sizeOf0
  v0 := Tryz.zeroValue0
  t4 := Tryz.underlying4
  a4 := Tryz.isAgg4
  z4 := Tryz.sizeOf4
  v4 := Tryz.zeroValue4
  t5 := Tryz.underlying5
  a5 := Tryz.isAgg5
  z5 := Tryz.sizeOf5
  v5 := Tryz.zeroValue5
  t9 := Tryz.underlying9
  a9 := Tryz.isAgg9
  z9 := Tryz.sizeOf9
  v9 := Tryz.zeroValue9
  t20 := Tryz.underlying20
  a20 := Tryz.isAgg20
  z20 := Tryz.sizeOf20
  v20 := Tryz.zeroValue20
  t37 := Tryz.underlying149
  a37 := Tryz.isAgg149
  z37 := Tryz.sizeOf149
  v37 := Tryz.zeroValue149
  t70 := Tryz.underlying148
  a70 := Tryz.isAgg148
  z70 := Tryz.sizeOf148
  v70 := Tryz.zeroValue148
  t72 := Tryz.underlying151
  a72 := Tryz.isAgg151
  z72 := Tryz.sizeOf151
  v72 := Tryz.zeroValue151
  t75 := Tryz.underlying154
  a75 := Tryz.isAgg154
  z75 := Tryz.sizeOf154
  v75 := Tryz.zeroValue154
  t164 := Tryz.underlying236
  a164 := Tryz.isAgg236
  z164 := Tryz.sizeOf236
  v164 := Tryz.zeroValue236 }
theorem bx : Builder.Extra Tryz.prog bren := {
  sizeBuilder := by kernel_rfl
  liesBuilder := by kernel_rfl
  t5 := Tryz.underlying5
  a5 := Tryz.isAgg5
  z5 := Tryz.sizeOf5
  v5 := Tryz.zeroValue5
  infoByte := by kernel_rfl
  cellsByte := by kernel_rfl
  sizeByte := by kernel_rfl
  neB5 := by decide }
/-- Block b is a builder that holds l; the call's own blocks are those from B on. -/
def Bd (w : World) (B b : Nat) (l : List UInt8) : Prop := Lib.IsBuilderF 151 5 B b (Lib.byteCells l) w
theorem byteCells_append (l m : List UInt8) : Lib.byteCells (l ++ m) = Lib.byteCells l ++ Lib.byteCells m := by simp [Lib.byteCells]
theorem byteCells_length (l : List UInt8) : (Lib.byteCells l).length = l.length := by simp [Lib.byteCells]
theorem WriteByte_c (w : World) (B b : Nat) (l : List UInt8) (c : Nat) (hc : c < 256) (h : Bd w B b l) (hB : B ≤ w.heap.size) (hl : l.length + 1 ≤ 140737488355328) :
    Calls Tryz.prog 126 #[.pointer (some ⟨b, 0, none⟩), .int .u8 c] w fun e w' => e = .returned .nilIface ∧ Bd w' B b (l ++ [UInt8.ofNat c]) ∧ Below B w w' :=
  (Any.Builder_WriteByte_k bl167 bx B b (Lib.byteCells l) c w h (by rw [byteCells_length]; exact hl) hB).mono fun e w' ⟨he, h1, h2, _⟩ => ⟨he, by
    unfold Bd
    rw [byteCells_append]
    have : Lib.byteCells [UInt8.ofNat c] = [.int .u8 (c : Int)] := by
      simp only [Lib.byteCells, List.map_cons, List.map_nil, UInt8.toNat_ofNat']
      rw [Nat.mod_eq_of_lt hc]
    rw [this]; exact .inr h1, h2⟩
theorem WriteString_c (w : World) (B b : Nat) (l s : List UInt8) (h : Bd w B b l) (hB : B ≤ w.heap.size) (hl : l.length + s.length ≤ 140737488355328) :
    Calls Tryz.prog 127 #[.pointer (some ⟨b, 0, none⟩), .string (bs s)] w fun e w' => e = .returned (.tuple #[.int .i64 s.length, .nilIface]) ∧ Bd w' B b (l ++ s) ∧ Below B w w' :=
  (Any.Builder_WriteString_k { Tryz.lays105 with } Tryz.Builder_Extra_105 B b (Lib.byteCells l) (bs s) w h (by rw [byteCells_length, bs_size]; exact hl) hB).mono fun e w' ⟨he, h1, h2, _⟩ => ⟨by rw [he, bs_size], by
    unfold Bd
    rw [byteCells_append]
    exact .inr h1, h2⟩
theorem String_c (w : World) (B b : Nat) (l : List UInt8) (h : Bd w B b l) (hB : B ≤ w.heap.size) :
    Calls Tryz.prog 129 #[.pointer (some ⟨b, 0, none⟩)] w fun e w' => e = .returned (.string (bs l)) ∧ Bd w' B b l ∧ Below B w w' :=
  (Any.Builder_String_any_k Tryz.lays169 Tryz.Builder_Extra_169 B b l w h hB).mono fun _ _ ⟨he, h1, h2, _⟩ => ⟨he, h1, h2⟩
theorem Len_c (w : World) (B b : Nat) (l : List UInt8) (h : Bd w B b l) :
    Calls Tryz.prog 128 #[.pointer (some ⟨b, 0, none⟩)] w fun e w' => e = .returned (.int .i64 l.length) ∧ w' = w := by
  have := Any.Builder_Len_f Tryz.lays170 B b (Lib.byteCells l) w h
  rwa [byteCells_length] at this
theorem Bd.below {w w' : World} {B b : Nat} {l : List UInt8} (h : Bd w B b l) (hb : Gr w w') : Bd w' B b l := by
  have key : ∀ p, Lib.BuilderAtF 151 5 B b p (Lib.byteCells l) w → Lib.BuilderAtF 151 5 B b p (Lib.byteCells l) w' := by
    rintro p ⟨hB, v, hv, hown, hne⟩
    refine ⟨hB, v, ?_, hown.kept (row := none) ⟨hb.b.os, hb.b.tape, hb.b.output, hb.b.size, fun k hk _ => hb.b.block k hk⟩ ?_, hne⟩
    · rw [hb.b.block b (Array.getElem?_eq_some_iff.1 hv).1]; exact hv
    · cases v.ownBlock with
      | none => exact .inl rfl
      | some k => exact .inr (by simp)
  exact h.elim (fun x => .inl (key _ x)) (fun x => .inr (key _ x))
theorem Bd.new (w : World) : Bd (w.alloc (.cells #[.pointer none, .slice none 0 0] 151)) w.heap.size w.heap.size [] :=
  Lib.IsBuilderF.of (Lib.fresh_isBuilder 151 5 w)
end Go.Proofs.YtlmdpamehhcblaaGreatDoor
