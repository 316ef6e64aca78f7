import Derived.Test.YtlmdpamehhcblaaGreatDoorLib
import Derived.Test.YtlmdpamehhcblaaGreatDoorWf
/- Contracts of package whole: Check, all. -/
namespace Go.Proofs.YtlmdpamehhcblaaGreatDoor
open Go.RowKit
open Go.Lib (itoa decDigits)
open YtlmdpamehhcblaaGreatDoorD (canon mag minus natural isDig)

/-- What whole.Check answers. -/
def chk (s : List UInt8) : Int := if canon s then (if 1024 < (mag s).length then 11 else 0) else 3
theorem trim_minus (s : List UInt8) : Lib.trimPrefix s [45] = mag s := by
  unfold Lib.trimPrefix mag minus Lib.hasPrefix
  cases s with
  | nil => rfl
  | cons c r =>
    by_cases h : c = 45
    · subst h; simp [List.isPrefixOf]
    · have h2 : ¬ (45 : UInt8) = c := fun e => h e.symm
      simp [List.isPrefixOf, h, h2]
theorem trim_digits (l : List UInt8) : (Lib.trimS l [48, 49, 50, 51, 52, 53, 54, 55, 56, 57] = []) ↔ l.all isDig = true := by
  have hc : ∀ c : UInt8, [48, 49, 50, 51, 52, 53, 54, 55, 56, 57].contains c = isDig c := by
    have h : ∀ n : Fin 256, [48, 49, 50, 51, 52, 53, 54, 55, 56, 57].contains (UInt8.ofNat n.val) = isDig (UInt8.ofNat n.val) := by decide +kernel
    intro c
    have := h ⟨c.toNat, UInt8.toNat_lt c⟩
    simpa using this
  have hd : ∀ (l : List UInt8) (p : UInt8 → Bool), l.dropWhile p = [] ↔ l.all p = true := by
    intro l p
    induction l with
    | nil => simp
    | cons c r ih =>
      by_cases h : p c = true
      · rw [List.dropWhile_cons_of_pos h, ih]; simp [h]
      · rw [List.dropWhile_cons_of_neg h]; simp [h]
  have hfun : (fun c : UInt8 => [48, 49, 50, 51, 52, 53, 54, 55, 56, 57].contains c) = isDig := funext hc
  unfold Lib.trimS Lib.trimLeftS Lib.trimRightS
  rw [hfun, hd]
  constructor
  · intro h
    -- what is left ends in no digit
    have key : ∀ l : List UInt8, (l.dropWhile isDig).all isDig = true → l.all isDig = true := by
      intro l
      induction l with
      | nil => simp
      | cons c r ih =>
        intro h
        by_cases hp : isDig c = true
        · rw [List.dropWhile_cons_of_pos hp] at h; simp [hp, ih h]
        · rw [List.dropWhile_cons_of_neg hp] at h; exact h
    rw [List.all_reverse] at h
    have := key _ h
    rwa [List.all_reverse] at this
  · intro h
    rw [List.all_reverse, List.all_eq_true]
    intro c hc
    have := (List.dropWhile_sublist isDig).subset hc
    rw [List.mem_reverse] at this
    exact List.all_eq_true.1 h c this
theorem mag_le (s : List UInt8) : (mag s).length ≤ s.length := by unfold mag; split <;> simp
theorem canon_parts (s : List UInt8) (h0 : mag s ≠ []) (h1 : (mag s).all isDig = true) : canon s = (!((mag s).head? == some 48) || s == [48]) := by
  unfold canon natural
  rw [h1]
  have h2 : (mag s).isEmpty = false := by simp [h0]
  rw [h2]
  unfold mag at h0 h1 ⊢
  by_cases hm : minus s = true
  · rw [if_pos hm] at *
    have hs : s ≠ [48] := by intro e; rw [e] at hm; simp [minus] at hm
    cases ht : s.tail with
    | nil => exact absurd ht h0
    | cons c r =>
      by_cases hc : c = 48
      · subst hc; cases r <;> simp [hm, hs]
      · have hcb : (c == 48) = false := by simpa using hc
        have hs2 : (s == [48]) = false := by simpa using hs
        simp [hm, bne, hcb, hs2]
  · rw [if_neg hm] at *
    cases s with
    | nil => exact absurd rfl h0
    | cons c r =>
      by_cases hc : c = 48
      · subst hc; cases r <;> simp [hm]
      · have hcb : (c == 48) = false := by simpa using hc
        simp [hm, bne, hcb]
theorem get0_48 : ∀ (l : List UInt8) (h : 0 < (bs l).size), (((bs l)[0].toNat : Int) == 48) = (l.head? == some 48)
  | [], h => by simp [bs_size] at h
  | c :: r, h => by
    rw [Bool.eq_iff_iff, beq_iff_eq, beq_iff_eq, List.head?_cons, Option.some.injEq]
    show ((c.toNat : Int) = 48) ↔ c = 48
    constructor
    · intro hc
      have : c.toNat = (48 : UInt8).toNat := by simp; omega
      exact UInt8.toNat_inj.1 this
    · intro hc; rw [hc]; rfl
/-- An error number of the program's. -/
def RetE (n : Int) (w : World) (e : Ending) (w' : World) : Prop := e = .returned (.int .i64 n) ∧ Gr w w'
set_option maxHeartbeats 1000000 in
theorem Check_c (w : World) (s : List UInt8) (hs : s.length ≤ 9223372036854775807) : Calls Tryz.prog 107 #[.string (bs s)] w (RetE (chk s) w) := by
  have hm := mag_le s
  have hT := TrimPrefix_c w s [45]
  rw [trim_minus] at hT
  have hsz := bs_size (mag s)
  by_cases h0 : mag s = []
  · have e : chk s = 3 := by unfold chk canon natural; rw [h0]; rfl
    rw [e]
    have h1 : (bs (mag s)).toList = [] := by rw [bs_toList, h0]
    clear e h0
    go_enter Tryz.func107, Tryz.ntmps107
    go_wp2_with fail
    refine hT.mono ?_
    rintro e w1 ⟨rfl, rfl⟩
    go_wp2_with fail
    go_ret
    exact ⟨rfl, Gr.refl _⟩
  · have h2 : (bs (mag s)).toList.isEmpty = false := by rw [bs_toList]; simp [h0]
    have hlen : 0 < (mag s).length := List.length_pos_iff.2 h0
    have hTr := Trim_c w (mag s) [48, 49, 50, 51, 52, 53, 54, 55, 56, 57] (by omega) (by decide) (by decide)
    by_cases h1 : (mag s).all isDig = true
    · have h3 := (trim_digits (mag s)).2 h1
      have e : chk s = if 1024 < (mag s).length then (if !((mag s).head? == some 48) || s == [48] then 11 else 3) else (if !((mag s).head? == some 48) || s == [48] then 0 else 3) := by
        unfold chk; rw [canon_parts s h0 h1]; split <;> split <;> rfl
      have h5 := get0_48 (mag s) (by rw [bs_size]; exact hlen)
      have h6 : (bs s).toList = s := bs_toList s
      have hl0 : 0 < (bs (mag s)).size := by rw [bs_size]; exact hlen
      rw [h3] at hTr
      rw [e]
      have H := Lib.hid hTr
      have hsz2 : ((bs (mag s)).size : Int) = ((mag s).length : Int) := by rw [bs_size]
      clear e h1 h3 h0 hTr h6
      have h7 : ((bs s).toList != [48]) = !(s == [48]) := by rw [bs_toList]; rfl
      have h8 : ((bs s).toList == [48]) = (s == [48]) := by rw [bs_toList]
      cases ha : ((mag s).head? == some 48) <;> cases hb : (s == [48]) <;> rw [ha] at h5 <;> rw [hb] at h7 h8 <;> by_cases hc : 1024 < (mag s).length
      all_goals (
        clear ha hb
        have h9 : (bs []).toList.isEmpty = true := by rw [bs_toList]; rfl
        simp only [Bool.not_true, Bool.not_false] at h7
        go_enter Tryz.func107, Tryz.ntmps107
        go_wp2_with fail
        refine hT.mono ?_
        rintro e w1 ⟨rfl, rfl⟩
        go_wp2_with fail
        refine H.out.mono ?_
        rintro e w2 ⟨rfl, hg⟩
        go_wp2_with fail
        go_ret
        exact ⟨by first | (simp; done) | (simp [hc]; done), hg⟩)
    · have h3 : Lib.trimS (mag s) [48, 49, 50, 51, 52, 53, 54, 55, 56, 57] ≠ [] := fun x => h1 ((trim_digits _).1 x)
      have e : chk s = 3 := by unfold chk canon natural; simp [h1]
      rw [e]
      generalize Lib.trimS (mag s) [48, 49, 50, 51, 52, 53, 54, 55, 56, 57] = r at *
      have h4 : (bs r).toList.isEmpty = false := by rw [bs_toList]; simp [h3]
      have H := Lib.hid hTr
      clear e h1 h3 h0 hTr
      go_enter Tryz.func107, Tryz.ntmps107
      go_wp2_with fail
      refine hT.mono ?_
      rintro e w1 ⟨rfl, rfl⟩
      go_wp2_with fail
      refine H.out.mono ?_
      rintro e w2 ⟨rfl, hg⟩
      go_wp2_with fail
      go_ret
      exact ⟨rfl, hg⟩
theorem chk_itoa {n : Int} (h : n.natAbs < YtlmdpamehhcblaaGreatDoorD.Lim) : chk (itoa n) = 0 := by
  unfold chk
  rw [YtlmdpamehhcblaaGreatDoorD.canon_itoa, YtlmdpamehhcblaaGreatDoorD.mag_itoa, YtlmdpamehhcblaaGreatDoorD.decDigits_len]
  have := YtlmdpamehhcblaaGreatDoorD.nDigits_lim h
  rw [if_pos rfl, if_neg (by omega)]
theorem itoa_len_le {n : Int} (h : n.natAbs < YtlmdpamehhcblaaGreatDoorD.Lim) : (itoa n).length ≤ 1025 := by
  have := YtlmdpamehhcblaaGreatDoorD.nDigits_lim h
  unfold Lib.itoa
  split
  · rw [List.length_cons, YtlmdpamehhcblaaGreatDoorD.decDigits_len]; omega
  · rename_i h2; rw [YtlmdpamehhcblaaGreatDoorD.decDigits_len, show n.toNat = n.natAbs by omega]; omega
theorem Check_int (w : World) (n : Int) (h : n.natAbs < YtlmdpamehhcblaaGreatDoorD.Lim) : Calls Tryz.prog 107 #[.string (bs (itoa n))] w (RetE 0 w) := by
  have := Check_c w (itoa n) (by have := itoa_len_le h; omega)
  rwa [chk_itoa h] at this

/-- A slice of integers' texts in memory. -/
def IntsAt (w : World) (g off : Nat) (l : List Int) : Prop := ∀ j, j < l.length → w.cell? ⟨g, off + j, none⟩ = some (.string (bs (itoa (l.getD j 0))))
theorem IntsAt.gr {w w' : World} {g off : Nat} {l : List Int} (h : IntsAt w g off l) (k : Gr w w') : IntsAt w' g off l := fun j hj => cell_gr k (h j hj)
set_option maxHeartbeats 1000000 in
theorem all_c (w : World) (g off c : Nat) (l : List Int) (hl : IntsAt w g off l) (hn : l.length ≤ 9223372036854775807) (hb : ∀ n ∈ l, n.natAbs < YtlmdpamehhcblaaGreatDoorD.Lim) :
    Calls Tryz.prog 111 #[.slice (some ⟨g, off, none⟩) l.length c] w (RetE 0 w) := by
  have HL := Lib.hid hl
  have HB := Lib.hid hb
  clear hl hb
  go_enter Tryz.func111, Tryz.ntmps111
  go_wp2_with fail
  go_loopg [8] l.length (fun k i wr => ∃ j : Nat, k + j = l.length ∧ i = .int .i64 j ∧ Aside (Gr w wr))
  case atStart => exact ⟨0, rfl, rfl, Gr.refl w⟩
  case round =>
    obtain ⟨j, hj, rfl, A⟩ := hrel
    have HJ := Lib.hid hj; clear hj
    by_cases hlt : j < l.length
    · have hc := (HL.out.gr A.out) j hlt
      have hmem : l.getD j 0 ∈ l := by rw [List.getD_eq_getElem?_getD, List.getElem?_eq_getElem hlt]; exact List.getElem_mem hlt
      have hck := Lib.hid (fun w => Check_int w (l.getD j 0) (HB.out _ hmem))
      clear hmem
      generalize bs (itoa (l.getD j 0)) = s at *
      go_wp2_with fail
      refine (hck.out _).mono ?_
      rintro e w1 ⟨rfl, hg⟩
      have A2 : Aside (Gr w w1) := A.out.trans hg
      clear A hg hc
      go_wp2_with fail
      go_roundg (gk - 1)
      case measure => have := HJ.out; omega
      case rel => exact ⟨j + 1, by have := HJ.out; omega, by go_num, A2.out⟩
    · go_wp2_with fail
      go_ret
      exact ⟨rfl, A.out⟩
end Go.Proofs.YtlmdpamehhcblaaGreatDoor
