import Derived.Test.YtlmdpamehhcblaaGreatDoorWo
import Derived.Laws.IdiomStrings
import Derived.Lib.BufferWrite
import Derived.Laws.MakeOwn
import Derived.Laws.OwnMore
import Derived.Test.YtlmdpamehhcblaaGreatDoorUr
/- Contracts of the reference of whole: size, Below, number, brief, signed, Turned, Of. -/
namespace Go.Proofs.YtlmdpamehhcblaaGreatDoor
open Go.RowKit
open Go.Lib (itoa decDigits)
open YtlmdpamehhcblaaGreatDoorD (mag minus isDig val)

theorem get0_eq (c : UInt8) : ∀ (l : List UInt8) (h : 0 < (bs l).size), (((bs l)[0].toNat : Int) == (c.toNat : Int)) = (l.head? == some c)
  | [], h => by simp [bs_size] at h
  | d :: r, h => by
    rw [Bool.eq_iff_iff, beq_iff_eq, beq_iff_eq, List.head?_cons, Option.some.injEq]
    show ((d.toNat : Int) = (c.toNat : Int)) ↔ d = c
    constructor
    · intro hc; exact UInt8.toNat_inj.1 (by omega)
    · intro hc; rw [hc]
theorem get0m (l : List UInt8) (h : 0 < (bs l).size) : (((bs l)[0].toNat : Int) == 45) = minus l := get0_eq 45 l h
theorem drop1_bs (l : List UInt8) : (bs l).extract 1 (bs l).size = bs l.tail := by
  rw [bs_extract, bs_size]
  congr 1
  cases l with
  | nil => rfl
  | cons c r => simp
set_option maxHeartbeats 1000000 in
theorem size1_c (w : World) (s : List UInt8) : Calls Tryz.prog 207 #[.string (bs s)] w fun e w' => e = .returned (.string (bs (mag s))) ∧ w' = w := by
  by_cases h0 : s = []
  · subst h0
    have h1 : (bs ([] : List UInt8)).toList = [] := bs_toList _
    have h2 : (bs ([] : List UInt8)).toList.isEmpty = true := by rw [h1]; rfl
    go_enter Tryz.func207, Tryz.ntmps207
    go_wp2_with fail
    go_ret
    exact ⟨rfl, rfl⟩
  · have h2 : (bs s).toList.isEmpty = false := by rw [bs_toList]; simpa using h0
    have hz : 0 < (bs s).size := by rw [bs_size]; exact List.length_pos_iff.2 h0
    have h5 := get0m s hz
    have hd := drop1_bs s
    cases hm : minus s with
    | true =>
      have e : mag s = s.tail := by unfold YtlmdpamehhcblaaGreatDoorD.mag; rw [if_pos hm]
      rw [hm] at h5
      rw [e]
      clear e hm h0
      go_enter Tryz.func207, Tryz.ntmps207
      go_wp2_with fail
      go_ret
      exact ⟨by rw [← hd]; simp, rfl⟩
    | false =>
      have e : mag s = s := by unfold YtlmdpamehhcblaaGreatDoorD.mag; rw [hm]; rfl
      rw [hm] at h5
      rw [e]
      clear e hm h0 hd
      go_enter Tryz.func207, Tryz.ntmps207
      go_wp2_with fail
      go_ret
      exact ⟨rfl, rfl⟩
set_option maxHeartbeats 1000000 in
theorem below1_c (w : World) (s : List UInt8) (hs : s ≠ []) : Calls Tryz.prog 188 #[.string (bs s)] w fun e w' => e = .returned (.bool (minus s)) ∧ w' = w := by
  have hz : 0 < (bs s).size := by rw [bs_size]; exact List.length_pos_iff.2 hs
  have h5 := get0m s hz
  generalize minus s = m at *
  go_enter Tryz.func188, Tryz.ntmps188
  go_wp2_with fail
  go_ret
  exact ⟨by rw [← h5]; rfl, rfl⟩
theorem size1_i (w : World) (n : Int) : Calls Tryz.prog 207 #[.string (bs (itoa n))] w fun e w' => e = .returned (.string (bs (decDigits n.natAbs))) ∧ w' = w := by
  have := size1_c w (itoa n)
  rwa [YtlmdpamehhcblaaGreatDoorD.mag_itoa] at this
theorem below1_i (w : World) (n : Int) : Calls Tryz.prog 188 #[.string (bs (itoa n))] w fun e w' => e = .returned (.bool (decide (n < 0))) ∧ w' = w := by
  have := below1_c w (itoa n) (YtlmdpamehhcblaaGreatDoorD.itoa_ne n)
  rwa [YtlmdpamehhcblaaGreatDoorD.minus_itoa] at this
theorem val_step (s : List UInt8) (j : Nat) (h : j < s.length) : val (s.take (j + 1)) = 10 * val (s.take j) + (s[j].toNat - 48) := by
  rw [List.take_add_one, List.getElem?_eq_getElem h, Option.toList_some, YtlmdpamehhcblaaGreatDoorD.val_snoc]
theorem val_take_lt {s : List UInt8} (h : s.all isDig = true) (hl : s.length ≤ 18) (j : Nat) : val (s.take j) < 1000000000000000000 := by
  have h1 : (s.take j).all isDig = true := by
    rw [List.all_eq_true] at h ⊢
    exact fun x hx => h x (List.mem_of_mem_take hx)
  have h2 := YtlmdpamehhcblaaGreatDoorD.val_lt h1
  have h3 := Nat.pow_le_pow_right (n := 10) (by decide) (show (s.take j).length ≤ 18 by rw [List.length_take]; omega)
  have e : (10 : Nat) ^ 18 = 1000000000000000000 := by decide
  omega
theorem dig_at {s : List UInt8} (h : s.all isDig = true) (j : Nat) (hj : j < s.length) : 48 ≤ s[j].toNat ∧ s[j].toNat ≤ 57 :=
  (YtlmdpamehhcblaaGreatDoorD.isDig_iff _).1 (List.all_eq_true.1 h _ (List.getElem_mem hj))
theorem dig_get {s : List UInt8} (h : s.all isDig = true) (j : Nat) (hj : j < (bs s).size) : ∃ d : Nat, d ≤ 9 ∧ ((bs s)[j]'hj).toNat = 48 + d ∧ val (s.take (j + 1)) = 10 * val (s.take j) + d := by
  have hl : j < s.length := by rw [bs_size] at hj; exact hj
  obtain ⟨a, b⟩ := dig_at h j hl
  exact ⟨s[j].toNat - 48, by omega, by show s[j].toNat = _; omega, val_step s j hl⟩
set_option maxHeartbeats 2000000 in
theorem number1_c (w : World) (n : Int) (hn : n.natAbs < 1000000000000000000) : Calls Tryz.prog 238 #[.string (bs (itoa n))] w fun e w' => e = .returned (.int .i64 n) ∧ w' = w := by
  have HS := Lib.hid (fun w => size1_i w n)
  have HB := Lib.hid (fun w => below1_i w n)
  have hall := YtlmdpamehhcblaaGreatDoorD.decDigits_all n.natAbs
  have hl : (decDigits n.natAbs).length ≤ 18 := by
    rw [YtlmdpamehhcblaaGreatDoorD.decDigits_len]; exact (YtlmdpamehhcblaaGreatDoorD.nDigits_le_iff _ _ (by decide)).2 (by simpa using hn)
  have hv := YtlmdpamehhcblaaGreatDoorD.val_decDigits n.natAbs
  have HV := Lib.hid (val_take_lt hall hl)
  have HD := Lib.hid (fun j hj => dig_get hall j hj)
  have hsz := bs_size (decDigits n.natAbs)
  have hfull : (decDigits n.natAbs).take (decDigits n.natAbs).length = decDigits n.natAbs := List.take_length
  have HT := Lib.hid (show val ((decDigits n.natAbs).take (decDigits n.natAbs).length) = n.natAbs by rw [hfull, hv])
  clear hall hv hfull
  generalize bs (itoa n) = a at *
  generalize hs : decDigits n.natAbs = s at *
  have hsz2 : (bs s).size ≤ 18 := by omega
  go_enter Tryz.func238, Tryz.ntmps238
  go_wp2_with fail
  refine (HS.out _).mono ?_
  rintro e w1 ⟨rfl, rfl⟩
  go_wp2_with fail
  go_loopg [3, 5] s.length (fun k v i wr => ∃ j : Nat, k + j = s.length ∧ i = .int .i64 j ∧ v = .int .i64 (val (s.take j) : Nat) ∧ wr = w1)
  case atStart => exact ⟨0, rfl, rfl, by rw [List.take_zero, YtlmdpamehhcblaaGreatDoorD.val_nil]; rfl, rfl⟩
  case round =>
    obtain ⟨j, hj, rfl, rfl, rfl⟩ := hrel
    by_cases hlt : j < (bs s).size
    · obtain ⟨d, hd, hg, hval⟩ := HD.out j hlt
      have b1 := HV.out j
      have b2 := HV.out (j + 1)
      rw [hval] at b2
      have hr := Lib.hid hval
      clear hval
      generalize val (s.take j) = V at *
      go_wp2_with fail
      go_roundg (gk - 1)
      case measure => omega
      case rel => exact ⟨j + 1, by omega, by go_num, by rw [hr.out]; go_num, rfl⟩
    · have hjl : j = s.length := by omega
      have ht := HT.out
      rw [← hjl] at ht
      rw [ht]
      by_cases hneg : n < 0
      · have hd : decide (n < 0) = true := decide_eq_true hneg
        rw [hd] at HB
        have e : (n.natAbs : Int) = -n := by omega
        rw [e]
        clear hd ht e HT HV HD
        go_wp2_with fail
        refine (HB.out _).mono ?_
        rintro e w1 ⟨rfl, rfl⟩
        go_wp2_with fail
        go_ret
        exact ⟨by simp, rfl⟩
      · have hd : decide (n < 0) = false := decide_eq_false hneg
        rw [hd] at HB
        have e : (n.natAbs : Int) = n := by omega
        rw [e]
        clear hd ht e HT HV HD
        go_wp2_with fail
        refine (HB.out _).mono ?_
        rintro e w1 ⟨rfl, rfl⟩
        go_wp2_with fail
        go_ret
        exact ⟨rfl, rfl⟩
theorem len18 (n : Int) : (decDigits n.natAbs).length ≤ 18 ↔ n.natAbs < 1000000000000000000 := by
  rw [YtlmdpamehhcblaaGreatDoorD.decDigits_len]
  exact YtlmdpamehhcblaaGreatDoorD.nDigits_le_iff _ 18 (by decide)
set_option maxHeartbeats 2000000 in
theorem brief1_c (w : World) (m n : Int) : Calls Tryz.prog 205 #[.string (bs (itoa m)), .string (bs (itoa n))] w fun e w' => e = .returned (if m.natAbs < 1000000000000000000 ∧ n.natAbs < 1000000000000000000 then .tuple #[.int .i64 m, .int .i64 n, .bool true] else .tuple #[.int .i64 0, .int .i64 0, .bool false]) ∧ w' = w := by
  have S1 := Lib.hid (fun w => size1_i w m)
  have S2 := Lib.hid (fun w => size1_i w n)
  have l1 := len18 m
  have l2 := len18 n
  have N1 := fun h w => number1_c w m h
  have N2 := fun h w => number1_c w n h
  rw [← bs_size] at l1 l2
  generalize bs (decDigits m.natAbs) = x at *
  generalize bs (decDigits n.natAbs) = y at *
  generalize bs (itoa m) = a at *
  generalize bs (itoa n) = b at *
  by_cases h1 : m.natAbs < 1000000000000000000
  · have k1 := l1.2 h1
    have N1 := Lib.hid (N1 h1)
    by_cases h2 : n.natAbs < 1000000000000000000
    · have k2 := l2.2 h2
      have N2 := Lib.hid (N2 h2)
      rw [if_pos ⟨h1, h2⟩]
      clear l1 l2 h1 h2
      go_enter Tryz.func205, Tryz.ntmps205
      go_wp2_with fail
      refine (S1.out _).mono ?_
      rintro e w1 ⟨rfl, rfl⟩
      go_wp2_with fail
      refine (S2.out _).mono ?_
      rintro e w1 ⟨rfl, rfl⟩
      go_wp2_with fail
      refine (N1.out _).mono ?_
      rintro e w1 ⟨rfl, rfl⟩
      go_wp2_with fail
      refine (N2.out _).mono ?_
      rintro e w1 ⟨rfl, rfl⟩
      go_wp2_with fail
      go_ret3
      exact ⟨rfl, rfl⟩
    · have k2 : ¬ y.size ≤ 18 := fun h => h2 (l2.1 h)
      rw [if_neg (fun h => h2 h.2)]
      clear l1 l2 h1 h2 N2
      go_enter Tryz.func205, Tryz.ntmps205
      go_wp2_with fail
      refine (S1.out _).mono ?_
      rintro e w1 ⟨rfl, rfl⟩
      go_wp2_with fail
      refine (S2.out _).mono ?_
      rintro e w1 ⟨rfl, rfl⟩
      go_wp2_with fail
      go_ret3
      exact ⟨rfl, rfl⟩
  · have k1 : ¬ x.size ≤ 18 := fun h => h1 (l1.1 h)
    rw [if_neg (fun h => h1 h.1)]
    clear l1 l2 h1 N1 N2
    go_enter Tryz.func205, Tryz.ntmps205
    go_wp2_with fail
    refine (S1.out _).mono ?_
    rintro e w1 ⟨rfl, rfl⟩
    go_wp2_with fail
    go_ret3
    exact ⟨rfl, rfl⟩
theorem signed_pos (u : Nat) : itoa (u : Int) = decDigits u := YtlmdpamehhcblaaGreatDoorD.itoa_nat u
set_option maxHeartbeats 1000000 in
theorem signed1_c (w : World) (u : Nat) (m : Bool) (hl : (decDigits u).length ≤ 9223372036854775000) : Calls Tryz.prog 208 #[.string (bs (decDigits u)), .bool m] w fun e w' => e = .returned (.string (bs (itoa (if m then -(u : Int) else u)))) ∧ w' = w := by
  have hsz := bs_size (decDigits u)
  cases m with
  | false =>
    rw [if_neg (by simp), YtlmdpamehhcblaaGreatDoorD.itoa_nat]
    generalize bs (decDigits u) = s at *
    go_enter Tryz.func208, Tryz.ntmps208
    go_wp2_with fail
    go_ret
    exact ⟨rfl, rfl⟩
  | true =>
    rw [if_pos rfl]
    by_cases h : u = 0
    · subst h
      have e : itoa (-((0 : Nat) : Int)) = decDigits 0 := YtlmdpamehhcblaaGreatDoorD.itoa_nat 0
      rw [e]
      have z : (bs (decDigits 0)).toList = [48] := by rw [bs_toList, YtlmdpamehhcblaaGreatDoorD.decDigits_small (by decide)]; rfl
      generalize bs (decDigits 0) = s at *
      go_enter Tryz.func208, Tryz.ntmps208
      go_wp2_with fail
      go_ret
      exact ⟨rfl, rfl⟩
    · have e : bs (itoa (-(u : Int))) = { data := #[45] } ++ bs (decDigits u) := by
        rw [YtlmdpamehhcblaaGreatDoorD.itoa_neg h]
        show _ = bs [45] ++ _
        rw [bs_append]; rfl
      rw [e]
      have z : ((bs (decDigits u)).toList == [48]) = false := by
        rw [bs_toList, beq_eq_false_iff_ne]
        intro hh
        have := YtlmdpamehhcblaaGreatDoorD.val_decDigits u
        rw [hh, YtlmdpamehhcblaaGreatDoorD.val_one] at this
        exact h this.symm
      generalize bs (decDigits u) = s at *
      go_enter Tryz.func208, Tryz.ntmps208
      go_wp2_with fail
      go_ret
      exact ⟨rfl, rfl⟩
set_option maxHeartbeats 1000000 in
theorem turned1_c (w : World) (n : Int) (hl : (decDigits n.natAbs).length ≤ 9223372036854775000) : Calls Tryz.prog 189 #[.string (bs (itoa n))] w fun e w' => e = .returned (.string (bs (itoa (-n)))) ∧ w' = w := by
  have HS := Lib.hid (fun w => size1_i w n)
  have HB := Lib.hid (fun w => below1_i w n)
  have HG := fun w m => signed1_c w n.natAbs m hl
  by_cases h : n < 0
  · rw [decide_eq_true h] at HB
    have HG := Lib.hid (fun w => by have := HG w false; rw [if_neg (by simp), show ((n.natAbs : Nat) : Int) = -n by omega] at this; exact this : ∀ w, Calls Tryz.prog 208 #[.string (bs (decDigits n.natAbs)), .bool false] w fun e w' => e = .returned (.string (bs (itoa (-n)))) ∧ w' = w)
    clear h hl
    generalize bs (decDigits n.natAbs) = s at *
    generalize bs (itoa n) = a at *
    generalize bs (itoa (-n)) = b at *
    go_enter Tryz.func189, Tryz.ntmps189
    go_wp2_with fail
    refine (HS.out _).mono ?_
    rintro e w1 ⟨rfl, rfl⟩
    go_wp2_with fail
    refine (HB.out _).mono ?_
    rintro e w1 ⟨rfl, rfl⟩
    go_wp2_with fail
    refine (HG.out _).mono ?_
    rintro e w1 ⟨rfl, rfl⟩
    go_wp2_with fail
    go_ret
    exact ⟨rfl, rfl⟩
  · rw [decide_eq_false h] at HB
    have HG := Lib.hid (fun w => by have := HG w true; rw [if_pos (by rfl), show -((n.natAbs : Nat) : Int) = -n by omega] at this; exact this : ∀ w, Calls Tryz.prog 208 #[.string (bs (decDigits n.natAbs)), .bool true] w fun e w' => e = .returned (.string (bs (itoa (-n)))) ∧ w' = w)
    clear h hl
    generalize bs (decDigits n.natAbs) = s at *
    generalize bs (itoa n) = a at *
    generalize bs (itoa (-n)) = b at *
    go_enter Tryz.func189, Tryz.ntmps189
    go_wp2_with fail
    refine (HS.out _).mono ?_
    rintro e w1 ⟨rfl, rfl⟩
    go_wp2_with fail
    refine (HB.out _).mono ?_
    rintro e w1 ⟨rfl, rfl⟩
    go_wp2_with fail
    refine (HG.out _).mono ?_
    rintro e w1 ⟨rfl, rfl⟩
    go_wp2_with fail
    go_ret
    exact ⟨rfl, rfl⟩
/-- The digits that the loop of Of has taken. -/
theorem of_step {u : Nat} (h : ¬ u < 10) (t : List UInt8) : decDigits u ++ t = decDigits (u / 10) ++ (UInt8.ofNat (48 + u % 10) :: t) := by
  rw [YtlmdpamehhcblaaGreatDoorD.decDigits_big h, List.append_assoc]; rfl
theorem bs_one (d : Nat) : bs [UInt8.ofNat (48 + d)] = { data := #[UInt8.ofNat (48 + d)] } := rfl
theorem conv1 (w : World) (c : Int) (b : UInt8) (h : (b.toNat : Int) = c) :
    (convert 149 9 (.slice (some ⟨w.heap.size, 0, none⟩) 1 1)).run Tryz.prog (w.alloc (.cells #[.int .u8 c] 5)) = .ok (.string (bs [b])) (w.alloc (.cells #[.int .u8 c] 5)) := by
  refine run_convert_bytes_back (w.alloc (.cells #[.int .u8 c] 5)) 149 9 5 ⟨w.heap.size, 0, none⟩ 1 [b] Tryz.underlying149 Tryz.underlying5 Tryz.underlying9 (fun j hj => ?_)
  match j, hj with
  | 0, _ =>
    have hh : (w.alloc (.cells #[.int .u8 c] 5)).heap[w.heap.size]? = some (.cells #[.int .u8 c] 5) := heap_alloc_new w _
    show (w.alloc _).cell? ⟨w.heap.size, 0, none⟩ = _
    unfold World.cell?
    rw [hh]
    show some (Value.int .u8 c) = some (Value.int .u8 (b.toNat : Int))
    rw [h]
set_option maxHeartbeats 4000000 in
set_option maxRecDepth 20000 in
theorem of1_nat (w : World) (u : Nat) (h0 : 0 < u) (hu : u < 9223372036854775808) : Calls Tryz.prog 110 #[.int .i64 u] w fun e w' => e = .returned (.string (bs (decDigits u))) ∧ Gr w w' := by
  have hlen : (decDigits u).length ≤ 19 := by
    rw [YtlmdpamehhcblaaGreatDoorD.decDigits_len]; exact (YtlmdpamehhcblaaGreatDoorD.nDigits_le_iff _ _ (by decide)).2 (by
      have : (10 : Nat) ^ 19 = 10000000000000000000 := by decide
      omega)
  have hne : ((u : Int) == -(u : Int)) = false := by rw [beq_eq_false_iff_ne]; omega
  have hu1 : 1 ≤ (u : Int) := by omega
  have hu2 : (u : Int) ≤ 9223372036854775807 := by omega
  go_enter Tryz.func110, Tryz.ntmps110
  go_wp2_with fail
  go_loopg [3, 0] u (fun k s v wr => ∃ (x : Nat) (t : List UInt8), k = x ∧ v = .int .i64 x ∧ s = .string (bs t) ∧ x ≤ u ∧ Aside (decDigits x ++ t = decDigits u ∧ Gr w wr))
  case atStart => exact ⟨u, [], rfl, rfl, rfl, Nat.le_refl _, List.append_nil _, Gr.refl _⟩
  case round =>
    obtain ⟨x, t, hk, rfl, rfl, hxu, A⟩ := hrel
    have ht : t.length ≤ 19 := by
      have := congrArg List.length A.out.1
      rw [List.length_append] at this
      omega
    have hsz := bs_size t
    by_cases hlt : x < 10
    · have e := YtlmdpamehhcblaaGreatDoorD.decDigits_small hlt
      have cv := conv1 wr (48 + (x : Int)) (UInt8.ofNat (48 + x)) (by rw [YtlmdpamehhcblaaGreatDoorD.dig_toNat hlt]; omega)
      have he := A.out.1
      rw [e] at he
      have hb : bs (decDigits u) = bs [UInt8.ofNat (48 + x)] ++ bs t := by rw [bs_append, he]
      have HB := Lib.hid hb
      have hg := A.out.2
      have hs1 : (bs [UInt8.ofNat (48 + x)]).size = 1 := bs_size _
      clear A he hb e
      generalize bs [UInt8.ofNat (48 + x)] = D at *
      generalize bs t = T at *
      go_wp2_with fail
      go_ret
      exact ⟨by rw [HB.out]; rfl, hg.alloc _⟩
    · have e := of_step hlt t
      have hd10 : x % 10 < 10 := Nat.mod_lt _ (by decide)
      have cv := conv1 wr (48 + (x : Int) % 10) (UInt8.ofNat (48 + x % 10)) (by rw [YtlmdpamehhcblaaGreatDoorD.dig_toNat hd10]; omega)
      have hb : bs (UInt8.ofNat (48 + x % 10) :: t) = bs [UInt8.ofNat (48 + x % 10)] ++ bs t := by rw [bs_append]; rfl
      have hs1 : (bs [UInt8.ofNat (48 + x % 10)]).size = 1 := bs_size _
      have A2 : Aside (decDigits (x / 10) ++ (UInt8.ofNat (48 + x % 10) :: t) = decDigits u ∧ Gr w wr) := ⟨by rw [← e]; exact A.out.1, A.out.2⟩
      have HB := Lib.hid hb
      clear A e hb
      generalize bs [UInt8.ofNat (48 + x % 10)] = D at *
      generalize bs t = T at *
      go_wp2_with fail
      go_roundg (x / 10)
      case measure => omega
      case rel => exact ⟨x / 10, _, rfl, by go_num, by rw [HB.out], by omega, A2.out.1, A2.out.2.alloc _⟩
set_option maxHeartbeats 1000000 in
theorem of1_zero (w : World) : Calls Tryz.prog 110 #[.int .i64 0] w fun e w' => e = .returned (.string (bs (decDigits 0))) ∧ Gr w w' := by
  have cv := conv1 w 48 48 rfl
  have hs1 : (bs [48]).size = 1 := bs_size _
  have e : bs (decDigits 0) = bs [48] ++ { data := #[] } := by
    rw [YtlmdpamehhcblaaGreatDoorD.decDigits_small (by decide)]
    show _ = bs [48] ++ bs []
    rw [bs_append]; rfl
  rw [e]
  clear e
  generalize bs [48] = D at *
  go_enter Tryz.func110, Tryz.ntmps110
  go_wp2_with fail
  go_loopg [3, 0] 0 (fun k s v wr => k = 0 ∧ s = .string { data := #[] } ∧ v = .int .i64 0 ∧ wr = w)
  case atStart => exact ⟨rfl, rfl, rfl, rfl⟩
  case round =>
    obtain ⟨rfl, rfl, rfl, rfl⟩ := hrel
    go_wp2_with fail
    go_ret
    exact ⟨rfl, (Gr.refl _).alloc _⟩
set_option maxHeartbeats 1000000 in
theorem of1_c (w : World) (n : Int) (h0 : -9223372036854775808 < n) (h1 : n ≤ 9223372036854775807) : Calls Tryz.prog 110 #[.int .i64 n] w fun e w' => e = .returned (.string (bs (itoa n))) ∧ Gr w w' := by
  rcases Int.lt_trichotomy n 0 with h | h | h
  · obtain ⟨u, rfl⟩ : ∃ u : Nat, n = -(u : Int) := ⟨n.natAbs, by omega⟩
    have H1 := Lib.hid (fun w => of1_nat w u (by omega) (by omega))
    have hl : (decDigits u).length ≤ 9223372036854775000 := by
      have : (decDigits u).length ≤ 19 := by
        rw [YtlmdpamehhcblaaGreatDoorD.decDigits_len]; exact (YtlmdpamehhcblaaGreatDoorD.nDigits_le_iff _ _ (by decide)).2 (by
          have : (10 : Nat) ^ 19 = 10000000000000000000 := by decide
          omega)
      omega
    have H2 := Lib.hid (fun w => turned1_c w (u : Int) hl)
    rw [YtlmdpamehhcblaaGreatDoorD.itoa_nat] at H2
    have hne : (-(u : Int) == (u : Int)) = false := by rw [beq_eq_false_iff_ne]; omega
    have u1 : 1 ≤ (u : Int) := by omega
    have u2 : (u : Int) ≤ 9223372036854775807 := by omega
    clear h hl h0 h1
    generalize bs (decDigits u) = s at *
    generalize bs (itoa (-(u : Int))) = t at *
    generalize (u : Int) = v at *
    go_enter Tryz.func110, Tryz.ntmps110
    go_wp2_with fail
    refine (H1.out _).mono ?_
    rintro e w1 ⟨rfl, hg⟩
    go_wp2_with fail
    refine (H2.out _).mono ?_
    rintro e w2 ⟨rfl, rfl⟩
    go_wp2_with fail
    go_ret
    exact ⟨rfl, hg⟩
  · subst h
    exact of1_zero w
  · obtain ⟨u, rfl⟩ := Int.eq_ofNat_of_zero_le (Int.le_of_lt h)
    have := of1_nat w u (by omega) (by omega)
    rw [← YtlmdpamehhcblaaGreatDoorD.itoa_nat] at this
    exact this
end Go.Proofs.YtlmdpamehhcblaaGreatDoor
/- Contracts of the reference of whole: bare, wide, column, less. -/
namespace Go.Proofs.YtlmdpamehhcblaaGreatDoor
open Go.RowKit
open Go.Lib (itoa decDigits)
open YtlmdpamehhcblaaGreatDoorD (mag minus isDig val natural)

/-- Block g holds these values, all of them. -/
def RV (w : World) (g : Nat) (t : TypeId) (xs : List Value) : Prop := w.heap[g]? = some (.cells xs.toArray t (0, 0))
theorem RV.lt {w : World} {g : Nat} {t : TypeId} {xs : List Value} (h : RV w g t xs) : g < w.heap.size := (Array.getElem?_eq_some_iff.1 h).1
theorem RV.cell {w : World} {g : Nat} {t : TypeId} {xs : List Value} (h : RV w g t xs) (j : Nat) : w.cell? ⟨g, j, none⟩ = xs[j]? := by
  rw [cell_of_row w g j xs.toArray t (0, 0) h]; simp
theorem RV.fz {w : World} {g : Nat} {t : TypeId} {xs : List Value} (h : RV w g t xs) (j : Nat) : w.frozen? ⟨g, j, none⟩ = false := frozen_of_row w g j xs.toArray t h
theorem RV.set {w : World} {g : Nat} {t : TypeId} {xs : List Value} (h : RV w g t xs) (j : Nat) (u : Value) : RV (w.setCell ⟨g, j, none⟩ u) g t (xs.set j u) := by
  unfold RV at *
  rw [setCell_heap _ _ _ _ _ _ _ h]
  simp
theorem RV.gr {w w' : World} {g : Nat} {t : TypeId} {xs : List Value} (h : RV w g t xs) (k : Gr w w') : RV w' g t xs := by
  have hl := h.lt
  unfold RV at *
  rw [k.b.block g hl]; exact h
theorem RV.new (w : World) (t : TypeId) (xs : List Value) : RV (w.alloc (.cells xs.toArray t)) w.heap.size t xs := heap_alloc_new w _
theorem RV.drewN {w : World} {g : Nat} {t : TypeId} {xs : List Value} (h : RV w g t xs) (n : Nat) : RV (w.drewN n) g t xs := h
theorem RV.drew {w : World} {g : Nat} {t : TypeId} {xs : List Value} (h : RV w g t xs) : RV w.drew g t xs := h
/-- A byte as a value. -/
def bv (b : UInt8) : Value := .int .u8 (b.toNat : Int)
def RB (w : World) (g : Nat) (l : List UInt8) : Prop := RV w g 5 (l.map bv)
theorem RB.cell {w : World} {g : Nat} {l : List UInt8} (h : RB w g l) (j : Nat) (hj : j < l.length) : w.cell? ⟨g, j, none⟩ = some (bv l[j]) := by
  rw [RV.cell h]; simp [hj]
theorem RB.fz {w : World} {g : Nat} {l : List UInt8} (h : RB w g l) (j : Nat) : w.frozen? ⟨g, j, none⟩ = false := RV.fz h j
theorem RB.set {w : World} {g : Nat} {l : List UInt8} (h : RB w g l) (j : Nat) (b : UInt8) : RB (w.setCell ⟨g, j, none⟩ (bv b)) g (l.set j b) := by
  unfold RB at *
  rw [List.map_set]; exact RV.set h j _
theorem RB.gr {w w' : World} {g : Nat} {l : List UInt8} (h : RB w g l) (k : Gr w w') : RB w' g l := RV.gr h k
/-- 'string(out)' of a whole block of bytes. -/
theorem RB.text {w : World} {g : Nat} {l : List UInt8} (h : RB w g l) {n : Nat} (hn : l.length = n) : (convert 149 9 (.slice (some ⟨g, 0, none⟩) n n)).run Tryz.prog w = .ok (.string (bs l)) w := by
  subst hn
  refine run_convert_bytes_back w 149 9 5 ⟨g, 0, none⟩ l.length l Tryz.underlying149 Tryz.underlying5 Tryz.underlying9 (fun j hj => ?_)
  have e : (⟨g, 0, none⟩ : Addr).add j = ⟨g, j, none⟩ := by unfold Addr.add; split <;> simp_all
  rw [e, h.cell j hj]; rfl
theorem info5 : (Tryz.prog.info? 5).map (fun i => (i.zero, i.size, i.bytes)) = some (some (.int .u8 0), 1, 1) := by kernel_rfl
theorem make149 (w : World) (n : Nat) (hn : n ≤ 281474976710656) : (Instr.makeSlice 149 (.int .i64 (n : Int)) (.int .i64 (n : Int))).run Tryz.prog w = .ok (.slice (some ⟨w.heap.size, 0, none⟩) n n) (w.alloc (.cells (Array.replicate n (bv 0)) 5)) := by
  obtain ⟨i, hi, hz, hs, hb⟩ := info_parts info5
  have h := run_make (P := Tryz.prog) w 149 5 i (.int .u8 0) Tryz.underlying149 hi hz .i64 .i64 n n (by omega) (Int.le_refl _) (by rw [hb]; omega) (by omega)
  rw [h, hs]
  have e : madeCells (Value.int .u8 0).cells ((n : Int).toNat * 1) = Array.replicate n (bv 0) := by
    apply Array.toList_inj.1
    rw [Nat.mul_one, Int.toNat_natCast]
    show (madeCells #[Value.int .u8 0] n).toList = _
    rw [toList_madeCells_one, Array.toList_replicate]
    rfl
  rw [e]
  simp
theorem made149 (w : World) (n : Nat) : RB (w.alloc (.cells (Array.replicate n (bv 0)) 5)) w.heap.size (List.replicate n 0) := by
  have h := RV.new w 5 ((List.replicate n (0 : UInt8)).map bv)
  rw [show ((List.replicate n (0 : UInt8)).map bv).toArray = Array.replicate n (bv 0) by simp] at h
  exact h
/-- 'copy(out[n-len(s):], s)'. -/
theorem copyS (w : World) (g n : Nat) (s l : List UInt8) (h : RB w g l) (hl : l.length = n) (hs : s.length ≤ n) (dLen dCap : Nat) (hd : s.length ≤ dLen) (ty : TypeId) :
    ∃ w', (Builtin.copy_ #[149, 9] ty #[.slice (some ⟨g, n - s.length, none⟩) dLen dCap, .string (bs s)]).run Tryz.prog w = .ok (goInt s.length) w' ∧ RB w' g (l.take (n - s.length) ++ s) ∧ ∀ a, Gr a w → a.heap.size ≤ g → Gr a w' := by
  obtain ⟨i, hi, hz, hsz, hb⟩ := info_parts info5
  have hr := Lib.run_copy_row_string (P := Tryz.prog) w 149 9 ty 5 g (n - s.length) dLen dCap (bs s) (l.map bv).toArray 5 Tryz.underlying149 (by rw [hi]; exact congrArg some hsz) h (by rw [bs_size]; exact hd) (by rw [bs_size]; simp; omega)
  rw [bs_size, bs_data] at hr
  refine ⟨_, hr, ?_, fun a ha hag => below_setRow ha.b hag _⟩
  unfold RB RV
  rw [setRow_heap _ _ _ _ _ _ h]
  have e : ((l.map bv).toArray.toList.take (n - s.length) ++ Lib.byteCells s ++ (l.map bv).toArray.toList.drop (n - s.length + s.length)) = (l.take (n - s.length) ++ s).map bv := by
    rw [List.toList_toArray, List.drop_eq_nil_of_le (by simp; omega), List.append_nil, List.map_append, List.map_take]
    rfl
  rw [e]
theorem bare_step {l : List UInt8} {j : Nat} (h1 : j + 1 < l.length) (h : l[j]'(by omega) = 48) : val (l.drop (j + 1)) = val (l.drop j) := by
  rw [List.drop_eq_getElem_cons (show j < l.length by omega), YtlmdpamehhcblaaGreatDoorD.val_cons, h]
  simp
theorem bare_done {l : List UInt8} {j : Nat} (hj : j < l.length) (hall : l.all isDig = true) (h : l.length = j + 1 ∨ l[j] ≠ 48) : l.drop j = decDigits (val (l.drop j)) := by
  symm
  apply YtlmdpamehhcblaaGreatDoorD.decDigits_val
  have e := List.drop_eq_getElem_cons hj
  have ha : (l.drop j).all isDig = true := by
    rw [List.all_eq_true] at hall ⊢
    exact fun x hx => hall x (List.mem_of_mem_drop hx)
  have hl : (l.drop j).length = l.length - j := List.length_drop
  have hne : (l.drop j).isEmpty = false := by rw [e]; rfl
  have hh : (l.drop j).head? = some l[j] := by rw [e]; rfl
  unfold YtlmdpamehhcblaaGreatDoorD.natural
  rw [hne, ha, hh, hl]
  rcases h with h | h
  · rw [show l.length - j = 1 by omega]; rfl
  · have hb : (some l[j] != some 48) = true := by simp [h]
    rw [hb, Bool.or_true]; rfl
theorem get_drop (l : List UInt8) (j : Nat) (hj : j < l.length) (hz : 0 < (bs (l.drop j)).size) : (((bs (l.drop j))[0].toNat : Int) == 48) = decide (l[j] = 48) := by
  rw [get0_48, Bool.eq_iff_iff, beq_iff_eq, decide_eq_true_iff, List.head?_drop, List.getElem?_eq_getElem hj, Option.some.injEq]
set_option maxHeartbeats 2000000 in
theorem bare1_c (w : World) (l : List UInt8) (h0 : l ≠ []) (hall : l.all isDig = true) : Calls Tryz.prog 239 #[.string (bs l)] w fun e w' => e = .returned (.string (bs (decDigits (val l)))) ∧ w' = w := by
  have hl : 0 < l.length := List.length_pos_iff.2 h0
  have HA := Lib.hid hall
  clear hall h0
  go_enter Tryz.func239, Tryz.ntmps239
  go_wp2_with fail
  go_loopg [0] l.length (fun k s wr => ∃ j : Nat, k + j = l.length ∧ j < l.length ∧ s = .string (bs (l.drop j)) ∧ Aside (val (l.drop j) = val l) ∧ wr = w)
  case atStart => exact ⟨0, rfl, hl, rfl, rfl, rfl⟩
  case round =>
    obtain ⟨j, hj, hlt, rfl, V, rfl⟩ := hrel
    have hsz : (bs (l.drop j)).size = l.length - j := by rw [bs_size, List.length_drop]
    have hz : 0 < (bs (l.drop j)).size := by omega
    have hg := get_drop l j hlt hz
    have hd1 := drop1_bs (l.drop j)
    rw [List.tail_drop] at hd1
    by_cases h1 : l.length = j + 1
    · have he := bare_done hlt HA.out (.inl h1)
      have hs1 : (bs (l.drop j)).size = 1 := by omega
      rw [V.out] at he
      have HE := Lib.hid he
      clear he hd1 hg V
      go_wp2_with fail
      go_ret
      exact ⟨by rw [← HE.out]; rfl, rfl⟩
    · have hs1 : 1 < (bs (l.drop j)).size := by omega
      by_cases h2 : l[j] = 48
      · rw [decide_eq_true h2] at hg
        have V2 : Aside (val (l.drop (j + 1)) = val l) := by rw [bare_step (by omega) h2]; exact V
        clear V h2
        generalize bs (l.drop j) = s at *
        go_wp2_with fail
        go_roundg (gk - 1)
        case measure => omega
        case rel => exact ⟨j + 1, by omega, by omega, by rw [← hd1, hsz], V2.out, rfl⟩
      · have he := bare_done hlt HA.out (.inr h2)
        rw [decide_eq_false h2] at hg
        rw [V.out] at he
        have HE := Lib.hid he
        clear he hd1 V h2
        go_wp2_with fail
        go_ret
        exact ⟨by rw [← HE.out]; rfl, rfl⟩
/-- A column of a sum or a difference: the digit and the carry. -/
def colD (x y c : Nat) (add : Bool) : Nat × Nat := if add then (if 9 < x + y + c then (x + y + c - 10, 1) else (x + y + c, 0)) else (if x < y + c then (x + 10 - y - c, 1) else (x - y - c, 0))
theorem colD_add {x y c : Nat} (hx : x ≤ 9) (hy : y ≤ 9) (hc : c ≤ 1) : (colD x y c true).1 ≤ 9 ∧ (colD x y c true).2 ≤ 1 ∧ (colD x y c true).1 + 10 * (colD x y c true).2 = x + y + c := by
  unfold colD
  rw [if_pos rfl]
  split <;> simp <;> omega
theorem colD_sub {x y c : Nat} (hx : x ≤ 9) (hy : y ≤ 9) (hc : c ≤ 1) : (colD x y c false).1 ≤ 9 ∧ (colD x y c false).2 ≤ 1 ∧ (colD x y c false).1 + y + c = x + 10 * (colD x y c false).2 := by
  unfold colD
  rw [if_neg (by simp)]
  split <;> simp <;> omega
set_option maxHeartbeats 2000000 in
theorem column1_c (w : World) (x y c : Nat) (add : Bool) (hx : x ≤ 9) (hy : y ≤ 9) (hc : c ≤ 1) :
    Calls Tryz.prog 253 #[.int .u8 (48 + x : Int), .int .u8 (48 + y : Int), .int .i64 c, .bool add] w fun e w' => e = .returned (.tuple #[.int .u8 (48 + (colD x y c add).1 : Int), .int .i64 (colD x y c add).2]) ∧ w' = w := by
  cases add with
  | true =>
    by_cases h : 9 < x + y + c
    · have e : colD x y c true = (x + y + c - 10, 1) := by unfold colD; rw [if_pos rfl, if_pos h]
      rw [e]
      obtain ⟨d, hd⟩ : ∃ d, d = x + y + c - 10 := ⟨_, rfl⟩
      rw [← hd]
      go_enter Tryz.func253, Tryz.ntmps253
      go_wp2_with fail
      go_ret2
      exact ⟨by simp; omega, rfl⟩
    · have e : colD x y c true = (x + y + c, 0) := by unfold colD; rw [if_pos rfl, if_neg h]
      rw [e]
      go_enter Tryz.func253, Tryz.ntmps253
      go_wp2_with fail
      go_ret2
      exact ⟨by simp; omega, rfl⟩
  | false =>
    by_cases h : x < y + c
    · have e : colD x y c false = (x + 10 - y - c, 1) := by unfold colD; rw [if_neg (by simp), if_pos h]
      rw [e]
      obtain ⟨d, hd⟩ : ∃ d, d = x + 10 - y - c := ⟨_, rfl⟩
      rw [← hd]
      go_enter Tryz.func253, Tryz.ntmps253
      go_wp2_with fail
      go_ret2
      exact ⟨by simp; omega, rfl⟩
    · have e : colD x y c false = (x - y - c, 0) := by unfold colD; rw [if_neg (by simp), if_neg h]
      rw [e]
      obtain ⟨d, hd⟩ : ∃ d, d = x - y - c := ⟨_, rfl⟩
      rw [← hd]
      go_enter Tryz.func253, Tryz.ntmps253
      go_wp2_with fail
      go_ret2
      exact ⟨by simp; omega, rfl⟩
theorem less_val : ∀ (l m : List UInt8), l.all isDig = true → m.all isDig = true → l.length = m.length → Op.bytesLess l m = decide (val l < val m)
  | [], [], _, _, _ => by rw [YtlmdpamehhcblaaGreatDoorD.val_nil]; rfl
  | [], _ :: _, _, _, h => by simp at h
  | _ :: _, [], _, _, h => by simp at h
  | c :: l, d :: m, hl, hm, h => by
    simp only [List.all_cons, Bool.and_eq_true] at hl hm
    have hlen : l.length = m.length := by simpa using h
    have ih := less_val l m hl.2 hm.2 hlen
    have a := YtlmdpamehhcblaaGreatDoorD.val_lt hl.2
    have b := YtlmdpamehhcblaaGreatDoorD.val_lt hm.2
    have hc := (YtlmdpamehhcblaaGreatDoorD.isDig_iff c).1 hl.1
    have hd := (YtlmdpamehhcblaaGreatDoorD.isDig_iff d).1 hm.1
    rw [YtlmdpamehhcblaaGreatDoorD.val_cons, YtlmdpamehhcblaaGreatDoorD.val_cons, hlen]
    rw [hlen] at a
    unfold Op.bytesLess
    rw [ih]
    by_cases h1 : c.toNat < d.toNat
    · have h2 : c < d := UInt8.lt_iff_toNat_lt.2 h1
      have h3 : (c.toNat - 48 + 1) * 10 ^ m.length ≤ (d.toNat - 48) * 10 ^ m.length := Nat.mul_le_mul_right _ (by omega)
      rw [Nat.add_mul, Nat.one_mul] at h3
      rw [decide_eq_true h2, Bool.true_or, eq_comm, decide_eq_true_iff]
      omega
    · have h2 : ¬ c < d := fun x => h1 (UInt8.lt_iff_toNat_lt.1 x)
      rw [decide_eq_false h2, Bool.false_or]
      by_cases h4 : c.toNat = d.toNat
      · have e : (c == d) = true := by rw [beq_iff_eq]; exact UInt8.toNat_inj.1 h4
        rw [e, h4, Bool.true_and]
        congr 1
        rw [eq_iff_iff]
        omega
      · have e : (c == d) = false := by rw [beq_eq_false_iff_ne]; intro x; rw [x] at h4; exact h4 rfl
        have h3 : (d.toNat - 48 + 1) * 10 ^ m.length ≤ (c.toNat - 48) * 10 ^ m.length := Nat.mul_le_mul_right _ (by omega)
        rw [Nat.add_mul, Nat.one_mul] at h3
        rw [e, Bool.false_and, eq_comm, decide_eq_false_iff_not]
        omega
set_option maxHeartbeats 2000000 in
theorem less1_c (w : World) (u v : Nat) : Calls Tryz.prog 224 #[.string (bs (decDigits u)), .string (bs (decDigits v))] w fun e w' => e = .returned (.bool (decide (u < v))) ∧ w' = w := by
  have s1 := bs_size (decDigits u)
  have s2 := bs_size (decDigits v)
  have hlv := fun h => less_val (decDigits u) (decDigits v) (YtlmdpamehhcblaaGreatDoorD.decDigits_all u) (YtlmdpamehhcblaaGreatDoorD.decDigits_all v) h
  rw [YtlmdpamehhcblaaGreatDoorD.val_decDigits, YtlmdpamehhcblaaGreatDoorD.val_decDigits] at hlv
  rw [← bs_toList (decDigits u), ← bs_toList (decDigits v)] at hlv
  rcases Nat.lt_trichotomy (decDigits u).length (decDigits v).length with h | h | h
  · rw [decide_eq_true (YtlmdpamehhcblaaGreatDoorD.lt_of_digits h)]
    rw [← s1, ← s2] at h
    clear hlv s1 s2
    generalize bs (decDigits u) = x at *
    generalize bs (decDigits v) = y at *
    go_enter Tryz.func224, Tryz.ntmps224
    go_wp2_with fail
    go_ret
    exact ⟨rfl, rfl⟩
  · have hb := hlv (by rw [bs_toList, bs_toList]; exact h)
    rw [← s1, ← s2] at h
    have h1 : ¬ (bs (decDigits u)).size < (bs (decDigits v)).size := by omega
    clear hlv s1 s2
    generalize bs (decDigits u) = x at *
    generalize bs (decDigits v) = y at *
    generalize decide (u < v) = r at *
    go_enter Tryz.func224, Tryz.ntmps224
    go_wp2_with fail
    go_ret
    exact ⟨by simp, rfl⟩
  · have hn : ¬ u < v := by have := YtlmdpamehhcblaaGreatDoorD.lt_of_digits h; omega
    rw [decide_eq_false hn]
    rw [← s1, ← s2] at h
    clear hlv s1 s2 hn
    have h1 : ¬ (bs (decDigits u)).size < (bs (decDigits v)).size := by omega
    have h2 : ¬ (bs (decDigits u)).size = (bs (decDigits v)).size := by omega
    generalize bs (decDigits u) = x at *
    generalize bs (decDigits v) = y at *
    go_enter Tryz.func224, Tryz.ntmps224
    go_wp2_with fail
    go_ret
    exact ⟨by first | (simp; omega) | simp, rfl⟩
theorem fill_step (n j : Nat) (hj : j < n) (c : UInt8) : (List.replicate j c ++ List.replicate (n - j) (0 : UInt8)).set j c = List.replicate (j + 1) c ++ List.replicate (n - (j + 1)) 0 := by
  obtain ⟨m, rfl⟩ : ∃ m, n = j + (m + 1) := ⟨n - j - 1, by omega⟩
  rw [show j + (m + 1) - j = m + 1 by omega, show j + (m + 1) - (j + 1) = m by omega, List.replicate_succ, List.set_append, if_neg (by simp), List.length_replicate, Nat.sub_self, List.set_cons_zero, List.replicate_succ', List.append_assoc]
  rfl
set_option maxHeartbeats 4000000 in
set_option maxRecDepth 20000 in
theorem wide1_c (w : World) (s : List UInt8) (n : Nat) (h0 : 0 < s.length) (hsn : s.length ≤ n) (hn : n ≤ 1000000) : Calls Tryz.prog 252 #[.string (bs s), .int .i64 n] w fun e w' => e = .returned (.string (bs (List.replicate (n - s.length) 48 ++ s))) ∧ Gr w w' := by
  have hsz := bs_size s
  have MK := Lib.hid (fun w => make149 w n (by omega))
  go_enter Tryz.func252, Tryz.ntmps252
  have mk := MK.out w
  go_wp2_with fail
  have RB0 := Lib.hid (made149 w n)
  have G0 := Lib.hid ((Gr.refl w).alloc (.cells (Array.replicate n (bv 0)) 5))
  generalize w.alloc (.cells (Array.replicate n (bv 0)) 5) = w1 at *
  clear mk
  go_loopg [6] n (fun k i wr => ∃ j : Nat, k + j = n ∧ i = .int .i64 j ∧ Aside (RB wr w.heap.size (List.replicate j 48 ++ List.replicate (n - j) 0) ∧ Gr w wr))
  case atStart => exact ⟨0, rfl, rfl, by rw [List.replicate_zero, List.nil_append, Nat.sub_zero]; exact RB0.out, G0.out⟩
  case round =>
    obtain ⟨j, hj, rfl, A⟩ := hrel
    by_cases hlt : j < n
    · have c := A.out.1.cell j (by simp; omega)
      have f := A.out.1.fz j
      have A2 : Aside (RB (wr.setCell ⟨w.heap.size, j, none⟩ (.int .u8 48)) w.heap.size (List.replicate (j + 1) 48 ++ List.replicate (n - (j + 1)) 0) ∧ Gr w (wr.setCell ⟨w.heap.size, j, none⟩ (.int .u8 48))) := by
        refine ⟨?_, A.out.2.setCell (Nat.le_refl _) _⟩
        rw [← fill_step n j hlt 48]
        exact A.out.1.set j 48
      clear A
      go_wp2_with fail
      go_roundg (gk - 1)
      case measure => omega
      case rel => exact ⟨j + 1, by omega, by go_num, A2.out⟩
    · have hjn : j = n := by omega
      subst hjn
      have hrb := A.out.1
      rw [Nat.sub_self, List.replicate_zero, List.append_nil] at hrb
      obtain ⟨w2, cp, hrb2, hg2⟩ := copyS wr w.heap.size j s _ hrb (by simp) hsn (j - (j - s.length)) (j - (j - s.length)) (by omega) 3
      have hg3 := hg2 w A.out.2 (Nat.le_refl _)
      rw [List.take_replicate, Nat.min_eq_left (by omega)] at hrb2
      have cv := hrb2.text (n := j) (by simp; omega)
      clear A hrb hrb2 hg2
      go_wp2_with fail
      go_ret
      exact ⟨rfl, hg3⟩
end Go.Proofs.YtlmdpamehhcblaaGreatDoor
/- Contracts of the reference of whole: paper, Plus, Minus, Order. -/
namespace Go.Proofs.YtlmdpamehhcblaaGreatDoor
open Go.RowKit
open Go.Lib (itoa decDigits)
open YtlmdpamehhcblaaGreatDoorD (mag minus isDig val natural Lim)

/-- What the columns that are done (from j on) say. -/
def PaperI (add : Bool) (A B L : List UInt8) (c j : Nat) : Prop :=
  c ≤ 1 ∧ (L.drop j).all isDig = true ∧ (if add then val (L.drop j) + c * 10 ^ (L.length - j) = val (A.drop j) + val (B.drop j) else val (L.drop j) + val (B.drop j) = val (A.drop j) + c * 10 ^ (L.length - j))
theorem paper_start (add : Bool) (A B L : List UInt8) (ha : A.length = L.length) (hb : B.length = L.length) : PaperI add A B L 0 L.length := by
  refine ⟨by omega, by rw [List.drop_length]; rfl, ?_⟩
  rw [List.drop_length, List.drop_eq_nil_of_le (by omega), List.drop_eq_nil_of_le (by omega), YtlmdpamehhcblaaGreatDoorD.val_nil]
  cases add <;> simp
theorem drop_dig {A : List UInt8} {i : Nat} (hi : i < A.length) (x : Nat) (hx : A[i].toNat = 48 + x) : val (A.drop i) = x * 10 ^ (A.length - (i + 1)) + val (A.drop (i + 1)) := by
  rw [List.drop_eq_getElem_cons hi, YtlmdpamehhcblaaGreatDoorD.val_cons, hx, List.length_drop, Nat.add_sub_cancel_left]
theorem paper_step {add : Bool} {A B L : List UInt8} {c i x y : Nat} (ha : A.length = L.length) (hb : B.length = L.length) (hi : i < L.length) (hx : (A[i]'(by omega)).toNat = 48 + x) (hy : (B[i]'(by omega)).toNat = 48 + y) (hx9 : x ≤ 9) (hy9 : y ≤ 9)
    (h : PaperI add A B L c (i + 1)) : PaperI add A B (L.set i (UInt8.ofNat (48 + (colD x y c add).1))) (colD x y c add).2 i := by
  obtain ⟨hc, hd, hv⟩ := h
  have eA := drop_dig (A := A) (i := i) (by omega) x hx
  have eB := drop_dig (A := B) (i := i) (by omega) y hy
  have hd9 : (colD x y c add).1 ≤ 9 ∧ (colD x y c add).2 ≤ 1 := by
    cases add
    · have := colD_sub hx9 hy9 hc; exact ⟨this.1, this.2.1⟩
    · have := colD_add hx9 hy9 hc; exact ⟨this.1, this.2.1⟩
  have eL : (L.set i (UInt8.ofNat (48 + (colD x y c add).1))).drop i = UInt8.ofNat (48 + (colD x y c add).1) :: L.drop (i + 1) := by
    rw [List.drop_eq_getElem_cons (by simpa using hi), List.getElem_set_self, List.drop_set_of_lt (by omega)]
  have vL : val ((L.set i (UInt8.ofNat (48 + (colD x y c add).1))).drop i) = (colD x y c add).1 * 10 ^ (L.length - (i + 1)) + val (L.drop (i + 1)) := by
    rw [eL, YtlmdpamehhcblaaGreatDoorD.val_cons, YtlmdpamehhcblaaGreatDoorD.dig_toNat (by omega), List.length_drop, Nat.add_sub_cancel_left]
  have hp : 10 ^ (L.length - i) = 10 * 10 ^ (L.length - (i + 1)) := by
    rw [show L.length - i = (L.length - (i + 1)) + 1 by omega, Nat.pow_succ, Nat.mul_comm]
  refine ⟨hd9.2, ?_, ?_⟩
  · rw [eL, List.all_cons, hd, YtlmdpamehhcblaaGreatDoorD.isDig_of (by omega)]; rfl
  · rw [vL, List.length_set, hp, eA, eB, ha, hb]
    generalize 10 ^ (L.length - (i + 1)) = P at *
    generalize val (L.drop (i + 1)) = vl at *
    generalize val (A.drop (i + 1)) = va at *
    generalize val (B.drop (i + 1)) = vb at *
    cases add with
    | true =>
      obtain ⟨_, _, h3⟩ := colD_add hx9 hy9 hc
      generalize (colD x y c true).1 = d at *
      generalize (colD x y c true).2 = c' at *
      rw [if_pos rfl] at hv ⊢
      have e : (d + 10 * c') * P = (x + y + c) * P := by rw [h3]
      rw [Nat.add_mul, Nat.add_mul, Nat.add_mul] at e
      have e2 : c' * (10 * P) = 10 * c' * P := by rw [← Nat.mul_assoc, Nat.mul_comm c' 10]
      omega
    | false =>
      obtain ⟨_, _, h3⟩ := colD_sub hx9 hy9 hc
      generalize (colD x y c false).1 = d at *
      generalize (colD x y c false).2 = c' at *
      rw [if_neg (by simp)] at hv ⊢
      have e : (d + y + c) * P = (x + 10 * c') * P := by rw [h3]
      rw [Nat.add_mul, Nat.add_mul, Nat.add_mul] at e
      have e2 : c' * (10 * P) = 10 * c' * P := by rw [← Nat.mul_assoc, Nat.mul_comm c' 10]
      omega
theorem paper_end {add : Bool} {A B L : List UInt8} {c u v : Nat} (h : PaperI add A B L c 0) (hA : val A = u) (hB : val B = v) (hs : add = true → u + v < 10 ^ L.length) (hd : add = false → v ≤ u) : L.all isDig = true ∧ val L = if add then u + v else u - v := by
  obtain ⟨hc, hall, hv⟩ := h
  rw [List.drop_zero] at hall
  rw [List.drop_zero, List.drop_zero, List.drop_zero, hA, hB, Nat.sub_zero] at hv
  refine ⟨hall, ?_⟩
  have hl := YtlmdpamehhcblaaGreatDoorD.val_lt hall
  cases add with
  | true =>
    rw [if_pos rfl] at hv ⊢
    have := hs rfl
    rcases (show c = 0 ∨ c = 1 by omega) with rfl | rfl <;> omega
  | false =>
    rw [if_neg (by simp)] at hv ⊢
    have := hd rfl
    rcases (show c = 0 ∨ c = 1 by omega) with rfl | rfl <;> omega
/-- Digits with zeros in front. -/
def padTo (n u : Nat) : List UInt8 := List.replicate (n - (decDigits u).length) 48 ++ decDigits u
theorem padTo_len {n u : Nat} (h : (decDigits u).length ≤ n) : (padTo n u).length = n := by unfold padTo; simp; omega
theorem padTo_all (n u : Nat) : (padTo n u).all isDig = true := by
  unfold padTo
  rw [List.all_append, YtlmdpamehhcblaaGreatDoorD.decDigits_all, Bool.and_true, List.all_eq_true]
  intro x hx
  rw [(List.mem_replicate.1 hx).2]; decide
theorem padTo_val (n u : Nat) : val (padTo n u) = u := by
  unfold padTo
  rw [YtlmdpamehhcblaaGreatDoorD.val_append, YtlmdpamehhcblaaGreatDoorD.val_zeros', YtlmdpamehhcblaaGreatDoorD.val_decDigits]; simp
theorem dig_of_all {A : List UInt8} (h : A.all isDig = true) (i : Nat) (hi : i < A.length) : ∃ x, x ≤ 9 ∧ A[i].toNat = 48 + x := by
  obtain ⟨a, b⟩ := dig_at h i hi
  exact ⟨A[i].toNat - 48, by omega, by omega⟩
theorem pow_len (u : Nat) : u < 10 ^ (decDigits u).length := by
  have := YtlmdpamehhcblaaGreatDoorD.val_lt (YtlmdpamehhcblaaGreatDoorD.decDigits_all u)
  rwa [YtlmdpamehhcblaaGreatDoorD.val_decDigits] at this
theorem bv_dig {d : Nat} (h : d ≤ 9) : bv (UInt8.ofNat (48 + d)) = .int .u8 (48 + (d : Int)) := by
  unfold bv
  rw [YtlmdpamehhcblaaGreatDoorD.dig_toNat (by omega)]
  simp
set_option maxHeartbeats 4000000 in
set_option maxRecDepth 20000 in
theorem paper1_c (w : World) (u v : Nat) (add : Bool) (hd : add = false → v ≤ u) (hu : (decDigits u).length ≤ 3000) (hv : (decDigits v).length ≤ 3000) :
    Calls Tryz.prog 223 #[.string (bs (decDigits u)), .string (bs (decDigits v)), .bool add] w fun e w' => e = .returned (.string (bs (decDigits (if add then u + v else u - v)))) ∧ Gr w w' := by
  obtain ⟨n, hn⟩ : ∃ n : Nat, n = max (decDigits u).length (decDigits v).length + 1 := ⟨_, rfl⟩
  have hnu : (decDigits u).length ≤ n := by omega
  have hnv : (decDigits v).length ≤ n := by omega
  have hn3 : n ≤ 3001 := by omega
  have hpu := Nat.lt_of_lt_of_le (pow_len u) (Nat.pow_le_pow_right (n := 10) (by decide) (show (decDigits u).length ≤ n - 1 by omega))
  have hpv := Nat.lt_of_lt_of_le (pow_len v) (Nat.pow_le_pow_right (n := 10) (by decide) (show (decDigits v).length ≤ n - 1 by omega))
  have hpn : 10 ^ n = 10 * 10 ^ (n - 1) := by rw [show n = (n - 1) + 1 by omega, Nat.pow_succ, Nat.mul_comm]; simp
  have hsum : u + v < 10 ^ n := by omega
  have su := bs_size (decDigits u)
  have sv := bs_size (decDigits v)
  have W1 := Lib.hid (fun w => wide1_c w (decDigits u) n (List.length_pos_iff.2 (YtlmdpamehhcblaaGreatDoorD.decDigits_ne u)) hnu (by omega))
  have W2 := Lib.hid (fun w => wide1_c w (decDigits v) n (List.length_pos_iff.2 (YtlmdpamehhcblaaGreatDoorD.decDigits_ne v)) hnv (by omega))
  have eU : List.replicate (n - (decDigits u).length) 48 ++ decDigits u = padTo n u := rfl
  have eV : List.replicate (n - (decDigits v).length) 48 ++ decDigits v = padTo n v := rfl
  rw [eU] at W1
  rw [eV] at W2
  have lU := padTo_len hnu
  have lV := padTo_len hnv
  have HEnd := Lib.hid (fun (L : List UInt8) (c : Nat) (hL : L.length = n) (h : PaperI add (padTo n u) (padTo n v) L c 0) => paper_end (add := add) (A := padTo n u) (B := padTo n v) (L := L) (c := c) h (padTo_val n u) (padTo_val n v) (fun _ => by rw [hL]; exact hsum) hd)
  have DU := Lib.hid (fun i hi => dig_of_all (padTo_all n u) i hi)
  have DV := Lib.hid (fun i hi => dig_of_all (padTo_all n v) i hi)
  have hmx : max ((decDigits u).length : Int) (decDigits v).length = (n : Int) - 1 := by omega
  have MK := Lib.hid (fun w => make149 w n (by omega))
  have HST := Lib.hid (fun (L : List UInt8) (hL : n = L.length) => paper_start add (padTo n u) (padTo n v) L (lU.trans hL) (lV.trans hL))
  obtain ⟨r, hr⟩ : ∃ r, r = if add then u + v else u - v := ⟨_, rfl⟩
  rw [← hr] at HEnd ⊢
  have hn1 : 1 ≤ n := by omega
  clear eU eV hpu hpv hpn hsum hr hd hu hv hn hnu hnv
  generalize bs (decDigits u) = x at *
  generalize bs (decDigits v) = y at *
  generalize (decDigits u).length = lu at *
  generalize (decDigits v).length = lv at *
  generalize padTo n u = A at *
  generalize padTo n v = B at *
  have sA := bs_size A
  have sB := bs_size B
  go_enter Tryz.func223, Tryz.ntmps223
  go_wp2_with fail
  refine (W1.out _).mono ?_
  rintro e w1 ⟨rfl, hg1⟩
  go_wp2_with fail
  refine (W2.out _).mono ?_
  rintro e w2 ⟨rfl, hg2⟩
  have mk := MK.out w2
  have G2 := Lib.hid (hg1.trans hg2)
  clear hg1 hg2
  go_wp2_with fail
  have RB0 := Lib.hid (made149 w2 n)
  have G0 := Lib.hid (G2.out.alloc (.cells (Array.replicate n (bv 0)) 5))
  have hgs := Lib.hid G2.out.size
  generalize w2.alloc (.cells (Array.replicate n (bv 0)) 5) = w3 at *
  generalize w2.heap.size = g at *
  clear mk G2 W1 W2 MK
  go_loopg [9, 10] n (fun k c i wr => ∃ (L : List UInt8) (cc : Nat), i = .int .i64 ((k : Int) - 1) ∧ k ≤ n ∧ c = .int .i64 cc ∧ Aside (L.length = n ∧ PaperI add A B L cc k ∧ RB wr g L ∧ Gr w wr))
  case atStart => exact ⟨List.replicate n 0, 0, by go_num, Nat.le_refl _, rfl, by simp, by have := HST.out (List.replicate n 0) (by simp); rwa [List.length_replicate] at this, RB0.out, G0.out⟩
  case round =>
    obtain ⟨L, cc, rfl, hk, rfl, AS⟩ := hrel
    by_cases h0 : gk = 0
    · subst h0
      obtain ⟨hL, hP, hrb, hG⟩ := AS.out
      obtain ⟨e1, e2⟩ := HEnd.out L cc hL hP
      have HB := Lib.hid (fun w => bare1_c w L (by intro e; rw [e] at hL; simp at hL; omega) e1)
      rw [e2] at HB
      have cv := hrb.text (n := n) hL
      have hG := Lib.hid hG
      clear AS HEnd DU DV HST hrb e1 e2 hL hP RB0 G0
      generalize bs L = Ls at *
      go_wp2_with fail
      refine (HB.out _).mono ?_
      rintro e w5 ⟨rfl, rfl⟩
      go_wp2_with fail
      go_ret
      exact ⟨rfl, hG.out⟩
    · obtain ⟨m, rfl⟩ : ∃ m, gk = m + 1 := ⟨gk - 1, by omega⟩
      obtain ⟨hL, hP, hrb, hG⟩ := AS.out
      obtain ⟨x0, hx9, hx⟩ := DU.out m (by omega)
      obtain ⟨y0, hy9, hy⟩ := DV.out m (by omega)
      have hst := paper_step (lU.trans hL.symm) (lV.trans hL.symm) (by omega : m < L.length) hx hy hx9 hy9 hP
      have hc1 := hP.1
      have HC := Lib.hid (fun w => column1_c w x0 y0 cc add hx9 hy9 hc1)
      have hd9 : (colD x0 y0 cc add).1 ≤ 9 := by
        cases add
        · exact (colD_sub hx9 hy9 hc1).1
        · exact (colD_add hx9 hy9 hc1).1
      generalize (colD x0 y0 cc add).1 = d at *
      generalize (colD x0 y0 cc add).2 = c2 at *
      have cm := hrb.cell m (by omega)
      have fm := hrb.fz m
      have hrb2 := hrb.set m (UInt8.ofNat (48 + d))
      rw [bv_dig hd9] at hrb2
      have hG2 := hG.setCell (p := ⟨g, m, none⟩) hgs.out (.int .u8 (48 + (d : Int)))
      have gx : ((bs A)[m]'(by omega)).toNat = 48 + x0 := hx
      have gy : ((bs B)[m]'(by omega)).toNat = 48 + y0 := hy
      have AS2 : Aside ((L.set m (UInt8.ofNat (48 + d))).length = n ∧ PaperI add A B (L.set m (UInt8.ofNat (48 + d))) c2 m ∧ RB (wr.setCell ⟨g, m, none⟩ (.int .u8 (48 + (d : Int)))) g (L.set m (UInt8.ofNat (48 + d))) ∧ Gr w (wr.setCell ⟨g, m, none⟩ (.int .u8 (48 + (d : Int))))) := ⟨by rw [List.length_set]; exact hL, hst, hrb2, hG2⟩
      generalize L.set m (UInt8.ofNat (48 + d)) = L2 at *
      clear AS hP hrb hG hrb2 hG2 hst HEnd DU DV HST RB0 G0 hx hy
      go_wp2_with fail
      go_region_held3 (fun w' => w'.frozen? ⟨g, m, none⟩ = false) (go_keep)
        ((go_at_call 253; refine (HC.out _).mono ?_; rintro e w5 ⟨rfl, rfl⟩))
      all_goals (
        go_wp2_with fail
        go_roundg m
        case measure => omega
        case rel => first | exact ⟨L2, c2, by go_num, by omega, rfl, AS2.out.1, AS2.out.2.1, AS2.out.2.2.1, AS2.out.2.2.2⟩ | exact ⟨L2, c2, by go_num, by omega, rfl, AS2.out.1, AS2.out.2.1, RV.drew AS2.out.2.2.1, AS2.out.2.2.2.drew⟩)
theorem sum_len {k u v : Nat} (hu : (decDigits u).length ≤ k) (hv : (decDigits v).length ≤ k) : (decDigits (u + v)).length ≤ k + 1 := by
  have a2 := Nat.lt_of_lt_of_le (pow_len u) (Nat.pow_le_pow_right (n := 10) (by decide) hu)
  have b2 := Nat.lt_of_lt_of_le (pow_len v) (Nat.pow_le_pow_right (n := 10) (by decide) hv)
  rw [YtlmdpamehhcblaaGreatDoorD.decDigits_len]
  exact (YtlmdpamehhcblaaGreatDoorD.nDigits_le_iff _ _ (by omega)).2 (by rw [Nat.pow_succ]; omega)
set_option maxHeartbeats 4000000 in
set_option maxRecDepth 20000 in
theorem plus1_c (w : World) (m n : Int) (hm : (decDigits m.natAbs).length ≤ 3000) (hn : (decDigits n.natAbs).length ≤ 3000) :
    Calls Tryz.prog 173 #[.string (bs (itoa m)), .string (bs (itoa n))] w fun e w' => e = .returned (.string (bs (itoa (m + n)))) ∧ Gr w w' := by
  have HB := fun w => brief1_c w m n
  by_cases h18 : m.natAbs < 1000000000000000000 ∧ n.natAbs < 1000000000000000000
  · rw [if_pos h18] at HB
    have HB := Lib.hid HB
    have HO := Lib.hid (fun w => of1_c w (m + n) (by omega) (by omega))
    have b1 : -1000000000000000000 < m ∧ m < 1000000000000000000 := by omega
    have b2 : -1000000000000000000 < n ∧ n < 1000000000000000000 := by omega
    obtain ⟨b1, b1'⟩ := b1
    obtain ⟨b2, b2'⟩ := b2
    clear h18 hm hn
    generalize bs (itoa m) = x at *
    generalize bs (itoa n) = y at *
    generalize bs (itoa (m + n)) = z at *
    go_enter Tryz.func173, Tryz.ntmps173
    go_wp2_with fail
    refine (HB.out _).mono ?_
    rintro e w1 ⟨rfl, rfl⟩
    go_wp2_with fail
    refine (HO.out _).mono ?_
    rintro e w2 ⟨rfl, hg⟩
    go_wp2_with fail
    go_ret
    exact ⟨rfl, hg⟩
  · rw [if_neg h18] at HB
    have HB := Lib.hid HB
    have S1 := Lib.hid (fun w => size1_i w m)
    have S2 := Lib.hid (fun w => size1_i w n)
    have B1 := fun w => below1_i w m
    have B2 := fun w => below1_i w n
    have HL := fun w => less1_c w m.natAbs n.natAbs
    have lsum : (decDigits (m.natAbs + n.natAbs)).length ≤ 9223372036854775000 := by
      have := sum_len hm hn
      omega
    have lle : ∀ k, k ≤ m.natAbs + n.natAbs → (decDigits k).length ≤ 9223372036854775000 := fun k hk => by
      have h := YtlmdpamehhcblaaGreatDoorD.nDigits_mono hk
      rw [← YtlmdpamehhcblaaGreatDoorD.decDigits_len, ← YtlmdpamehhcblaaGreatDoorD.decDigits_len] at h
      omega
    by_cases hs : (m < 0 ↔ n < 0)
    · have hsg : decide (n < 0) = decide (m < 0) := by rw [decide_eq_decide]; exact hs.symm
      rw [hsg] at B2
      have HP := Lib.hid (fun w => paper1_c w m.natAbs n.natAbs true (fun e => by cases e) hm hn)
      simp only [if_true] at HP
      have HG := fun w => signed1_c w (m.natAbs + n.natAbs) (decide (m < 0)) lsum
      have er : (if decide (m < 0) = true then -((m.natAbs + n.natAbs : Nat) : Int) else ((m.natAbs + n.natAbs : Nat) : Int)) = m + n := by
        by_cases h : m < 0
        · rw [if_pos (decide_eq_true h)]; omega
        · rw [if_neg (by simpa using h)]; omega
      rw [er] at HG
      have HG := Lib.hid HG; have B1 := Lib.hid B1; have B2 := Lib.hid B2
      clear h18 hm hn lle lsum hs hsg er HL
      generalize bs (itoa m) = x at *
      generalize bs (itoa n) = y at *
      generalize bs (itoa (m + n)) = z at *
      generalize bs (decDigits m.natAbs) = p at *
      generalize bs (decDigits n.natAbs) = q at *
      generalize bs (decDigits (m.natAbs + n.natAbs)) = pq at *
      generalize decide (m < 0) = sg at *
      go_enter Tryz.func173, Tryz.ntmps173
      go_wp2_with fail
      refine (HB.out _).mono ?_
      rintro e w1 ⟨rfl, rfl⟩
      go_wp2_with fail
      refine (S1.out _).mono ?_
      rintro e w1 ⟨rfl, rfl⟩
      go_wp2_with fail
      refine (S2.out _).mono ?_
      rintro e w1 ⟨rfl, rfl⟩
      go_wp2_with fail
      refine (B1.out _).mono ?_
      rintro e w1 ⟨rfl, rfl⟩
      go_wp2_with fail
      refine (B2.out _).mono ?_
      rintro e w1 ⟨rfl, rfl⟩
      go_wp2_with fail
      refine (HP.out _).mono ?_
      rintro e w2 ⟨rfl, hg⟩
      go_wp2_with fail
      refine (B1.out _).mono ?_
      rintro e w3 ⟨rfl, rfl⟩
      go_wp2_with fail
      refine (HG.out _).mono ?_
      rintro e w3 ⟨rfl, rfl⟩
      go_wp2_with fail
      go_ret
      exact ⟨rfl, hg⟩
    · have hsg : (decide (m < 0) == decide (n < 0)) = false := by
        rw [beq_eq_false_iff_ne]
        intro e
        rw [decide_eq_decide] at e
        exact hs e
      have h1 := hm
      have h2 := hn
      by_cases hlt : m.natAbs < n.natAbs
      · have HP := Lib.hid (fun w => paper1_c w n.natAbs m.natAbs false (fun _ => by omega) h2 h1)
        simp only [Bool.false_eq_true, if_false] at HP
        have HG := fun w => signed1_c w (n.natAbs - m.natAbs) (decide (n < 0)) (lle _ (by omega))
        have er : (if decide (n < 0) = true then -((n.natAbs - m.natAbs : Nat) : Int) else ((n.natAbs - m.natAbs : Nat) : Int)) = m + n := by
          by_cases h : n < 0
          · rw [if_pos (decide_eq_true h)]; omega
          · rw [if_neg (by simpa using h)]; omega
        rw [er] at HG
        rw [decide_eq_true hlt] at HL
        have HG := Lib.hid HG; have B1 := Lib.hid B1; have B2 := Lib.hid B2; have HL := Lib.hid HL
        clear h18 h1 h2 lle lsum hs er hlt hm hn
        generalize bs (itoa m) = x at *
        generalize bs (itoa n) = y at *
        generalize bs (itoa (m + n)) = z at *
        generalize bs (decDigits (n.natAbs - m.natAbs)) = pq at *
        generalize bs (decDigits m.natAbs) = p at *
        generalize bs (decDigits n.natAbs) = q at *
        generalize decide (n < 0) = sn at *
        generalize decide (m < 0) = sm at *
        go_enter Tryz.func173, Tryz.ntmps173
        go_wp2_with fail
        refine (HB.out _).mono ?_
        rintro e w1 ⟨rfl, rfl⟩
        go_wp2_with fail
        refine (S1.out _).mono ?_
        rintro e w1 ⟨rfl, rfl⟩
        go_wp2_with fail
        refine (S2.out _).mono ?_
        rintro e w1 ⟨rfl, rfl⟩
        go_wp2_with fail
        refine (B1.out _).mono ?_
        rintro e w1 ⟨rfl, rfl⟩
        go_wp2_with fail
        refine (B2.out _).mono ?_
        rintro e w1 ⟨rfl, rfl⟩
        go_wp2_with fail
        refine (HL.out _).mono ?_
        rintro e w1 ⟨rfl, rfl⟩
        go_wp2_with fail
        refine (HP.out _).mono ?_
        rintro e w2 ⟨rfl, hg⟩
        go_wp2_with fail
        refine (B2.out _).mono ?_
        rintro e w3 ⟨rfl, rfl⟩
        go_wp2_with fail
        refine (HG.out _).mono ?_
        rintro e w3 ⟨rfl, rfl⟩
        go_wp2_with fail
        go_ret
        exact ⟨rfl, hg⟩
      · have HP := Lib.hid (fun w => paper1_c w m.natAbs n.natAbs false (fun _ => by omega) h1 h2)
        simp only [Bool.false_eq_true, if_false] at HP
        have HG := fun w => signed1_c w (m.natAbs - n.natAbs) (decide (m < 0)) (lle _ (by omega))
        have er : (if decide (m < 0) = true then -((m.natAbs - n.natAbs : Nat) : Int) else ((m.natAbs - n.natAbs : Nat) : Int)) = m + n := by
          by_cases h : m < 0
          · rw [if_pos (decide_eq_true h)]; omega
          · rw [if_neg (by simpa using h)]; omega
        rw [er] at HG
        rw [decide_eq_false hlt] at HL
        have HG := Lib.hid HG; have B1 := Lib.hid B1; have B2 := Lib.hid B2; have HL := Lib.hid HL
        clear h18 h1 h2 lle lsum hs er hlt hm hn
        generalize bs (itoa m) = x at *
        generalize bs (itoa n) = y at *
        generalize bs (itoa (m + n)) = z at *
        generalize bs (decDigits (m.natAbs - n.natAbs)) = pq at *
        generalize bs (decDigits m.natAbs) = p at *
        generalize bs (decDigits n.natAbs) = q at *
        generalize decide (n < 0) = sn at *
        generalize decide (m < 0) = sm at *
        go_enter Tryz.func173, Tryz.ntmps173
        go_wp2_with fail
        refine (HB.out _).mono ?_
        rintro e w1 ⟨rfl, rfl⟩
        go_wp2_with fail
        refine (S1.out _).mono ?_
        rintro e w1 ⟨rfl, rfl⟩
        go_wp2_with fail
        refine (S2.out _).mono ?_
        rintro e w1 ⟨rfl, rfl⟩
        go_wp2_with fail
        refine (B1.out _).mono ?_
        rintro e w1 ⟨rfl, rfl⟩
        go_wp2_with fail
        refine (B2.out _).mono ?_
        rintro e w1 ⟨rfl, rfl⟩
        go_wp2_with fail
        refine (HL.out _).mono ?_
        rintro e w1 ⟨rfl, rfl⟩
        go_wp2_with fail
        refine (HP.out _).mono ?_
        rintro e w2 ⟨rfl, hg⟩
        go_wp2_with fail
        refine (B1.out _).mono ?_
        rintro e w3 ⟨rfl, rfl⟩
        go_wp2_with fail
        refine (HG.out _).mono ?_
        rintro e w3 ⟨rfl, rfl⟩
        go_wp2_with fail
        go_ret
        exact ⟨rfl, hg⟩
end Go.Proofs.YtlmdpamehhcblaaGreatDoor
/- Contracts of the reference of whole: Minus, Order, Check, Small, the short roads of Parted and Shared. -/
namespace Go.Proofs.YtlmdpamehhcblaaGreatDoor
open Go.RowKit
open Go.Lib (itoa decDigits)
open YtlmdpamehhcblaaGreatDoorD (mag minus isDig val natural Lim)

theorem neg_abs (n : Int) : (-n).natAbs = n.natAbs := Int.natAbs_neg n
set_option maxHeartbeats 1000000 in
theorem minus1_c (w : World) (m n : Int) (hm : (decDigits m.natAbs).length ≤ 3000) (hn : (decDigits n.natAbs).length ≤ 3000) :
    Calls Tryz.prog 209 #[.string (bs (itoa m)), .string (bs (itoa n))] w fun e w' => e = .returned (.string (bs (itoa (m - n)))) ∧ Gr w w' := by
  have HT := Lib.hid (fun w => turned1_c w n (by omega))
  have HP := Lib.hid (fun w => plus1_c w m (-n) hm (by rw [neg_abs]; exact hn))
  rw [show m + -n = m - n by omega] at HP
  clear hm hn
  generalize bs (itoa m) = x at *
  generalize bs (itoa n) = y at *
  generalize bs (itoa (-n)) = y2 at *
  generalize bs (itoa (m - n)) = z at *
  go_enter Tryz.func209, Tryz.ntmps209
  go_wp2_with fail
  refine (HT.out _).mono ?_
  rintro e w1 ⟨rfl, rfl⟩
  go_wp2_with fail
  refine (HP.out _).mono ?_
  rintro e w2 ⟨rfl, hg⟩
  go_wp2_with fail
  go_ret
  exact ⟨rfl, hg⟩
theorem itoa_is0 (n : Int) : ((bs (itoa n)).toList == [48]) = decide (n = 0) := by
  have e0 : itoa 0 = [48] := by decide +kernel
  rw [bs_toList, Bool.eq_iff_iff, beq_iff_eq, decide_eq_true_iff, ← e0]
  exact ⟨YtlmdpamehhcblaaGreatDoorD.itoa_inj, fun h => by rw [h]⟩
set_option maxHeartbeats 1000000 in
theorem order1_c (w : World) (m n : Int) (hm : (decDigits m.natAbs).length ≤ 3000) (hn : (decDigits n.natAbs).length ≤ 3000) :
    Calls Tryz.prog 203 #[.string (bs (itoa m)), .string (bs (itoa n))] w fun e w' => e = .returned (.int .i64 (m - n).sign) ∧ Gr w w' := by
  have HM := Lib.hid (fun w => minus1_c w m n hm hn)
  have HB := fun w => below1_i w (m - n)
  have z := itoa_is0 (m - n)
  clear hm hn
  generalize bs (itoa m) = x at *
  generalize bs (itoa n) = y at *
  generalize m - n = d at *
  rcases Int.lt_trichotomy d 0 with h | h | h
  · rw [decide_eq_true h] at HB
    rw [decide_eq_false (by omega)] at z
    have HB := Lib.hid HB
    rw [Int.sign_eq_neg_one_of_neg h]
    clear h
    generalize bs (itoa d) = t at *
    go_enter Tryz.func203, Tryz.ntmps203
    go_wp2_with fail
    refine (HM.out _).mono ?_
    rintro e w2 ⟨rfl, hg⟩
    go_wp2_with fail
    refine (HB.out _).mono ?_
    rintro e w3 ⟨rfl, rfl⟩
    go_wp2_with fail
    go_ret
    exact ⟨rfl, hg⟩
  · rw [decide_eq_true h] at z
    subst h
    generalize bs (itoa 0) = t at *
    go_enter Tryz.func203, Tryz.ntmps203
    go_wp2_with fail
    refine (HM.out _).mono ?_
    rintro e w2 ⟨rfl, hg⟩
    go_wp2_with fail
    go_ret
    exact ⟨rfl, hg⟩
  · rw [decide_eq_false (by omega)] at HB
    rw [decide_eq_false (by omega)] at z
    have HB := Lib.hid HB
    rw [Int.sign_eq_one_of_pos h]
    clear h
    generalize bs (itoa d) = t at *
    go_enter Tryz.func203, Tryz.ntmps203
    go_wp2_with fail
    refine (HM.out _).mono ?_
    rintro e w2 ⟨rfl, hg⟩
    go_wp2_with fail
    refine (HB.out _).mono ?_
    rintro e w3 ⟨rfl, rfl⟩
    go_wp2_with fail
    go_ret
    exact ⟨rfl, hg⟩
/-- What is divided, rounded down. -/
theorem fdiv_short {m n : Int} (hn : 0 < n) : (m - m % n).tdiv n = m / n := by
  have h := Int.emod_add_mul_ediv m n
  have e : m - m % n = n * (m / n) := by omega
  rw [e, Int.mul_tdiv_cancel_left _ (by omega)]
theorem tmod_short {m n : Int} (hn : 0 < n) : (m.tmod n = m % n ∧ (m % n = 0 ∨ 0 ≤ m)) ∨ (m.tmod n ≠ 0 ∧ m.tmod n < 0 ∧ m.tmod n + n = m % n) := by
  rcases Int.lt_or_le m 0 with h | h
  · by_cases hd : n ∣ m
    · left
      rw [Int.tmod_eq_zero_of_dvd hd, Int.emod_eq_zero_of_dvd hd]
      exact ⟨rfl, .inl rfl⟩
    · right
      have h1 := Int.tmod_eq_emod (a := m) (b := n)
      rw [if_neg (by rintro (h2 | h2); omega; exact hd h2)] at h1
      have h2 := Int.emod_nonneg m (show n ≠ 0 by omega)
      have h3 := Int.emod_lt_of_pos m hn
      have h4 : ((n.natAbs : Nat) : Int) = n := by omega
      refine ⟨?_, by omega, by omega⟩
      omega
  · left
    rw [Int.tmod_eq_emod_of_nonneg h]
    exact ⟨rfl, .inr h⟩
set_option maxHeartbeats 1000000 in
theorem parted18_c (w : World) (m n : Int) (hm : m.natAbs < 1000000000000000000) (hn : n.natAbs < 1000000000000000000) (h0 : 0 < n) :
    Calls Tryz.prog 142 #[.string (bs (itoa m)), .string (bs (itoa n))] w fun e w' => e = .returned (.tuple #[.string (bs (itoa (m / n))), .string (bs (itoa (m % n)))]) ∧ Gr w w' := by
  have HB := fun w => brief1_c w m n
  rw [if_pos ⟨hm, hn⟩] at HB
  have HB := Lib.hid HB
  have r0 := Int.emod_nonneg m (show n ≠ 0 by omega)
  have r1 := Int.emod_lt_of_pos m h0
  have q0 : -1000000000000000000 ≤ m / n := (Int.le_ediv_iff_mul_le h0).2 (by
    have := Int.mul_le_mul_of_nonneg_left (show 1 ≤ n by omega) (show (0 : Int) ≤ 1000000000000000000 by decide)
    omega)
  have q1 : m / n ≤ 1000000000000000000 := by
    have := Int.ediv_le_of_le_mul h0 (show m ≤ 1000000000000000000 * n by
      have := Int.mul_le_mul_of_nonneg_left (show 1 ≤ n by omega) (show (0 : Int) ≤ 1000000000000000000 by decide)
      omega)
    exact this
  have HQ := Lib.hid (fun w => of1_c w (m / n) (by omega) (by omega))
  have HR := Lib.hid (fun w => of1_c w (m % n) (by omega) (by omega))
  have hq := fdiv_short (m := m) h0
  have ht := tmod_short (m := m) h0
  have b1 : -1000000000000000000 < m ∧ m < 1000000000000000000 := by omega
  obtain ⟨b1, b1'⟩ := b1
  have b2 : n < 1000000000000000000 := by omega
  have hnz : n ≠ 0 := by omega
  have hdec : decide (n < 0) = false := decide_eq_false (by omega)
  clear hm hn
  generalize bs (itoa m) = x at *
  generalize bs (itoa n) = y at *
  generalize bs (itoa (m / n)) = qt at *
  generalize bs (itoa (m % n)) = rt at *
  generalize m / n = q at *
  rcases ht with ⟨ht, hs⟩ | ⟨hz, hneg, ht⟩
  · generalize hr : m % n = r at *
    clear hs
    by_cases hr0 : r = 0
    · subst hr0
      rw [Int.sub_zero] at hq
      go_enter Tryz.func142, Tryz.ntmps142
      go_wp2_with fail
      refine (HB.out _).mono ?_
      rintro e w1 ⟨rfl, rfl⟩
      go_wp2_with fail
      go_at_call 110
      refine (HQ.out _).mono ?_
      rintro e w2 ⟨rfl, hg2⟩
      go_wp2_with fail
      refine (HR.out _).mono ?_
      rintro e w3 ⟨rfl, hg3⟩
      go_wp2_with fail
      go_ret2
      exact ⟨rfl, hg2.trans hg3⟩
    · have hr1 : 0 < r := by omega
      go_enter Tryz.func142, Tryz.ntmps142
      go_wp2_with fail
      refine (HB.out _).mono ?_
      rintro e w1 ⟨rfl, rfl⟩
      go_wp2_with fail
      go_at_call 110
      refine (HQ.out _).mono ?_
      rintro e w2 ⟨rfl, hg2⟩
      go_wp2_with fail
      refine (HR.out _).mono ?_
      rintro e w3 ⟨rfl, hg3⟩
      go_wp2_with fail
      go_ret2
      exact ⟨rfl, hg2.trans hg3⟩
  · generalize m % n = r at *
    generalize hs : m.tmod n = s at *
    go_enter Tryz.func142, Tryz.ntmps142
    go_wp2_with fail
    refine (HB.out _).mono ?_
    rintro e w1 ⟨rfl, rfl⟩
    go_wp2_with fail
    go_at_call 110
    refine (HQ.out _).mono ?_
    rintro e w2 ⟨rfl, hg2⟩
    go_wp2_with fail
    refine (HR.out _).mono ?_
    rintro e w3 ⟨rfl, hg3⟩
    go_wp2_with fail
    go_ret2
    exact ⟨rfl, hg2.trans hg3⟩
end Go.Proofs.YtlmdpamehhcblaaGreatDoor
