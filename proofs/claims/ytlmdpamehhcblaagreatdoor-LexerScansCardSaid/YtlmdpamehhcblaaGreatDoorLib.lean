import Derived.Test.YtlmdpamehhcblaaGreatDoorBase
import Derived.Test.YtlmdpamehhcblaaGreatDoorShelf
import Derived.Shelf.Strings.SlTrimAscii
import Derived.Shelf.Strings.BuilderK
import Derived.Lib.AppendIntMem
import Derived.Lib.UnsafeStr
/- The library's contracts in one form: what is asked of the world is 'Env'; nothing that was there turns ('Gr'). -/
namespace Go.Proofs.YtlmdpamehhcblaaGreatDoor
open Go.RowKit
open Go.Lib (itoa decDigits)

/-- What the library's own variables hold. -/
structure Env (w : World) : Prop where
  ml : ∃ m, w.cell? ⟨0, 0, none⟩ = some (.int .i64 m)
  p10 : Lib.TabIs Tryz.prog w "internal/strconv.uint64pow10" .u64 Lib.pow10Tab
  es : ∃ tp p, w.var? Tryz.prog "strconv.ErrSyntax" = some #[.iface tp p]
  er : ∃ tp p, w.var? Tryz.prog "strconv.ErrRange" = some #[.iface tp p]
theorem cell_gr {w w' : World} (h : Gr w w') {p : Addr} {v : Value} (hc : w.cell? p = some v) : w'.cell? p = some v := by
  rw [h.b.cell (World.block_lt_of_cell? w _ hc)]; exact hc
theorem fz_gr {w w' : World} (h : Gr w w') {p : Addr} (hp : p.block < w.heap.size) (hc : w.frozen? p = false) : w'.frozen? p = false := by
  rw [h.b.frozen hp]; exact hc
theorem var_gr {w w' : World} (k : Gr w w') {n : String} {cs : Array Value} (hp : w.var? Tryz.prog n = some cs) : w'.var? Tryz.prog n = some cs := by
  unfold World.var? at *
  revert hp
  cases hg : Tryz.prog.globalNamed n with
  | none => intro hp; simp at hp
  | some g =>
    intro hp
    simp only [Option.bind_some] at hp ⊢
    have hl : g < w.heap.size := by
      cases hh : w.heap[g]? with
      | none => rw [hh] at hp; simp at hp
      | some o => exact (Array.getElem?_eq_some_iff.1 hh).1
    rw [k.b.block g hl]; exact hp
theorem Env.gr {w w' : World} (h : Env w) (k : Gr w w') : Env w' where
  ml := let ⟨m, hm⟩ := h.ml; ⟨m, cell_gr k hm⟩
  p10 := Lib.tabBelow_of_tabIs h.p10 w' k
  es := let ⟨tp, p, hp⟩ := h.es; ⟨tp, p, var_gr k hp⟩
  er := let ⟨tp, p, hp⟩ := h.er; ⟨tp, p, var_gr k hp⟩

theorem gr_of_eq {w w' : World} (h : w' = w) : Gr w w' := by rw [h]; exact Gr.refl w
theorem gr_grow (w : World) (os : Array Obj) : Gr w (Sort.grow w os) :=
  ⟨rfl, rfl, rfl, by simp [Sort.grow], fun k hk => by simp only [Sort.grow]; rw [Array.getElem?_append_left hk]⟩

theorem Itoa_c (w : World) (he : Env w) (n : Int) (h0 : -9223372036854775808 ≤ n) (h1 : n ≤ 9223372036854775807) :
    Calls Tryz.prog 34 #[.int .i64 n] w fun e w' => e = .returned (.string (bs (itoa n))) ∧ Gr w w' :=
  (Tryz.strconv_Itoa n h0 h1 w he.p10).mono fun _ _ ⟨h, k, os, hw⟩ => ⟨h, by rw [hw]; exact ((Gr.refl w).drewN k).trans (gr_grow _ os)⟩
theorem Cut_c (w : World) (he : Env w) (s t : List UInt8) (hs : s.length < 4294967281) :
    Calls Tryz.prog 74 #[.string (bs s), .string (bs t)] w fun e w' => e = .returned (.tuple #[.string (bs (Lib.cut s t).1), .string (bs (Lib.cut s t).2.1), .bool (Lib.cut s t).2.2]) ∧ Gr w w' := by
  obtain ⟨m, hm⟩ := he.ml
  exact (Tryz.strings_Cut (bs s) (bs t) m w (by rw [bs_size]; exact hs) hm).mono fun _ _ ⟨h, k, hw⟩ => ⟨h, by rw [hw]; exact (Gr.refl w).drewN k⟩
theorem Contains_c (w : World) (he : Env w) (s t : List UInt8) (hs : s.length < 4294967281) :
    Calls Tryz.prog 70 #[.string (bs s), .string (bs t)] w fun e w' => e = .returned (.bool (Lib.contains s t)) ∧ w' = w := by
  obtain ⟨m, hm⟩ := he.ml
  exact Tryz.strings_Contains (bs s) (bs t) m w (by rw [bs_size]; exact hs) hm
theorem CutPrefix_c (w : World) (s t : List UInt8) :
    Calls Tryz.prog 75 #[.string (bs s), .string (bs t)] w fun e w' => e = .returned (.tuple #[.string (bs (Lib.trimPrefix s t)), .bool (Lib.hasPrefix s t)]) ∧ w' = w :=
  Tryz.strings_CutPrefix (bs s) (bs t) w
theorem TrimPrefix_c (w : World) (s t : List UInt8) :
    Calls Tryz.prog 73 #[.string (bs s), .string (bs t)] w fun e w' => e = .returned (.string (bs (Lib.trimPrefix s t))) ∧ w' = w :=
  Tryz.strings_TrimPrefix (bs s) (bs t) w
theorem TrimSuffix_c (w : World) (s t : List UInt8) (hs : s.length ≤ 9223372036854775807) :
    Calls Tryz.prog 71 #[.string (bs s), .string (bs t)] w fun e w' => e = .returned (.string (bs (Lib.trimSuffix s t))) ∧ w' = w :=
  Tryz.strings_TrimSuffix (bs s) (bs t) w (by rw [bs_size]; exact hs)
theorem HasPrefix_c (w : World) (s t : List UInt8) :
    Calls Tryz.prog 65 #[.string (bs s), .string (bs t)] w fun e w' => e = .returned (.bool (Lib.hasPrefix s t)) ∧ w' = w :=
  Tryz.strings_HasPrefix (bs s) (bs t) w
theorem HasSuffix_c (w : World) (s t : List UInt8) (hs : s.length ≤ 9223372036854775807) :
    Calls Tryz.prog 44 #[.string (bs s), .string (bs t)] w fun e w' => e = .returned (.bool (Lib.hasSuffix s t)) ∧ w' = w :=
  Tryz.strings_HasSuffix (bs s) (bs t) w (by rw [bs_size]; exact hs)
theorem Compare_c (w : World) (s t : List UInt8) :
    Calls Tryz.prog 229 #[.string (bs s), .string (bs t)] w fun e w' => e = .returned (.int .i64 (Lib.compareBytes s t)) ∧ w' = w :=
  Tryz.strings_Compare (bs s) (bs t) w
theorem IndexByte_c (w : World) (s : List UInt8) (c : Int) :
    Calls Tryz.prog 196 #[.string (bs s), .int .u8 c] w fun e w' => e = .returned (.int .i64 (Lib.indexByte s c.toNat.toUInt8)) ∧ w' = w :=
  Tryz.strings_IndexByte (bs s) c w
theorem Repeat_c (w : World) (s : List UInt8) (c : Nat) (h : s.length * c ≤ 140737488355328) (hc : c ≤ 9223372036854775807) :
    Calls Tryz.prog 133 #[.string (bs s), .int .i64 c] w fun e w' => e = .returned (.string (bs (Lib.repeatL s c))) ∧ Gr w w' :=
  Tryz.strings_Repeat (bs s) c w hc (by rw [bs_size]; exact h)
theorem Trim_c (w : World) (s t : List UInt8) (hs : s.length ≤ 9223372036854775807) (ht : t.length < 4294967281) (ha : t.all (fun b => decide (b.toNat < 128)) = true) :
    Calls Tryz.prog 64 #[.string (bs s), .string (bs t)] w fun e w' => e = .returned (.string (bs (Lib.trimS s t))) ∧ Gr w w' :=
  Any.strings_Trim_laid Tryz.lays160 (by kernel_rfl) (bs s) (bs t) w (by rw [bs_size]; exact hs) (by rw [bs_size]; exact ht) (ascii_of_all ha)
theorem TrimLeft_c (w : World) (s t : List UInt8) (ht : t.length < 4294967281) (ha : t.all (fun b => decide (b.toNat < 128)) = true) :
    Calls Tryz.prog 132 #[.string (bs s), .string (bs t)] w fun e w' => e = .returned (.string (bs (Lib.trimLeftS s t))) ∧ Gr w w' :=
  Any.strings_TrimLeft_laid Tryz.lays161 (by kernel_rfl) (bs s) (bs t) w (by rw [bs_size]; exact ht) (ascii_of_all ha)
theorem TrimRight_c (w : World) (s t : List UInt8) (hs : s.length ≤ 9223372036854775807) (ht : t.length < 4294967281) (ha : t.all (fun b => decide (b.toNat < 128)) = true) :
    Calls Tryz.prog 72 #[.string (bs s), .string (bs t)] w fun e w' => e = .returned (.string (bs (Lib.trimRightS s t))) ∧ Gr w w' :=
  Any.strings_TrimRight_laid Tryz.lays162 (by kernel_rfl) (bs s) (bs t) w (by rw [bs_size]; exact hs) (by rw [bs_size]; exact ht) (ascii_of_all ha)
theorem Atoi_ok (w : World) (s : List UInt8) (hs : s.length ≤ 9223372036854775806) (v : Int) (h : Lib.atoiAll s = .ok v) :
    Calls Tryz.prog 162 #[.string (bs s)] w fun e w' => e = .returned (.tuple #[.int .i64 v, .nilIface]) ∧ Gr w w' :=
  (Tryz.strconv_Atoi_ok (bs s) (by rw [bs_size]; exact hs) v h w).mono fun _ _ ⟨h, k⟩ => ⟨h, by
    rcases k with k | ⟨t, k⟩
    · exact gr_of_eq k
    · rw [k]; unfold Lib.bytesWorld; exact Lib.below_freeze ((Gr.refl w).drew.alloc _).b (Nat.le_refl _) _⟩
end Go.Proofs.YtlmdpamehhcblaaGreatDoor
