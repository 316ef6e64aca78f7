import Derived.Test.YtlmdpamehhcblaaGreatDoorKc
import Derived.Test.YtlmdpamehhcblaaGreatDoorUe
/- Contracts of the reference of units: Plain, decimal, Format. UnitsWrites. -/
namespace Go.Proofs.YtlmdpamehhcblaaGreatDoor
open Go.RowKit
open Go.Lib (itoa decDigits)
open YtlmdpamehhcblaaGreatDoorD (isDig val padDigits upad urest upointed ubody udiv uplace uformat uval uword rtext)

theorem zeros_of_val : ∀ l : List UInt8, l.all isDig = true → val l = 0 → l = List.replicate l.length 48
  | [], _, _ => rfl
  | c :: r, h, hv => by
    simp only [List.all_cons, Bool.and_eq_true] at h
    rw [YtlmdpamehhcblaaGreatDoorD.val_cons] at hv
    have hp : 0 < 10 ^ r.length := Nat.pow_pos (by decide)
    obtain ⟨h1, h2⟩ := (YtlmdpamehhcblaaGreatDoorD.isDig_iff c).1 h.1
    have hz : c.toNat - 48 = 0 := by
      rcases Nat.eq_zero_or_pos (c.toNat - 48) with e | e
      · exact e
      · have := Nat.mul_le_mul e hp; omega
    have hc : c = 48 := UInt8.toNat_inj.1 (by show c.toNat = (48 : UInt8).toNat; simp; omega)
    rw [List.length_cons, List.replicate_succ, ← zeros_of_val r h.2 (by omega), hc]
theorem trim_zero (L : List UInt8) : Lib.trimRightS (L ++ [48]) [48] = Lib.trimRightS L [48] := by
  unfold Lib.trimRightS
  rw [List.reverse_append, List.reverse_singleton, List.singleton_append, List.dropWhile_cons_of_pos (by decide)]
theorem trim_zeros (A : List UInt8) : ∀ k, Lib.trimRightS (A ++ List.replicate k 48) [48] = Lib.trimRightS A [48]
  | 0 => by rw [List.replicate_zero, List.append_nil]
  | k + 1 => by rw [List.replicate_succ', ← List.append_assoc, trim_zero, trim_zeros A k]
theorem trim_keep (A : List UInt8) (c : UInt8) (h : c ≠ 48) : Lib.trimRightS (A ++ [c]) [48] = A ++ [c] := by
  unfold Lib.trimRightS
  rw [List.reverse_append, List.reverse_singleton, List.singleton_append, List.dropWhile_cons_of_neg (by simpa using h), List.reverse_cons, List.reverse_reverse]
/-- What the loop has written when the rest is 0. -/
theorem trim_take {D : List UInt8} (hD : D.all isDig = true) {j : Nat} (hj : j + 1 ≤ D.length) (h0 : val (D.drop (j + 1)) = 0) (h1 : 0 < val (D.drop j)) : Lib.trimRightS D [48] = D.take (j + 1) := by
  have hd : (D.drop (j + 1)).all isDig = true := by
    rw [List.all_eq_true] at hD ⊢
    exact fun x hx => hD x (List.mem_of_mem_drop hx)
  have e := zeros_of_val _ hd h0
  obtain ⟨x, hx9, hx⟩ := dig_of_all hD j (by omega)
  have hv := drop_dig (A := D) (i := j) (by omega) x hx
  rw [h0] at hv
  have hx0 : x ≠ 0 := by intro e; rw [e] at hv; omega
  have hc : D[j] ≠ 48 := by intro e; rw [e] at hx; simp at hx; omega
  have ht : D.take (j + 1) = D.take j ++ [D[j]] := by rw [List.take_add_one, List.getElem?_eq_getElem (by omega)]; rfl
  conv => lhs; rw [← List.take_append_drop (j + 1) D, e, trim_zeros, ht, trim_keep _ _ hc]
  rw [ht]
theorem upointed_zero {n p : Nat} (hp : 1 ≤ p) (h : n % 10 ^ p = 0) : upointed n p = decDigits (n / 10 ^ p) := by
  have e := YtlmdpamehhcblaaGreatDoorD.upad_eq n p hp
  have hl := YtlmdpamehhcblaaGreatDoorD.padDigits_length p (n % 10 ^ p)
  have hall := YtlmdpamehhcblaaGreatDoorD.padDigits_all p (n % 10 ^ p) hp (Nat.mod_lt _ (Nat.pow_pos (by decide)))
  have hval := YtlmdpamehhcblaaGreatDoorD.val_padDigits p (n % 10 ^ p) hp (Nat.mod_lt _ (Nat.pow_pos (by decide)))
  have et : (upad n p).take ((upad n p).length - p) = decDigits (n / 10 ^ p) := by
    rw [e, List.length_append, hl, Nat.add_sub_cancel, List.take_left]
  have ed : urest n p = Lib.trimRightS (padDigits p (n % 10 ^ p)) [48] := by
    unfold YtlmdpamehhcblaaGreatDoorD.urest
    rw [e, List.length_append, hl, Nat.add_sub_cancel, List.drop_left]
  have ez : urest n p = [] := by
    rw [ed, zeros_of_val _ hall (by rw [hval, h])]
    have := trim_zeros [] (padDigits p (n % 10 ^ p)).length
    rw [List.nil_append] at this
    rw [this]; rfl
  unfold YtlmdpamehhcblaaGreatDoorD.upointed
  rw [if_pos ez, et]
theorem upointed_take {n p j : Nat} (hp : 1 ≤ p) (hj : j + 1 ≤ p) (h0 : val ((padDigits p (n % 10 ^ p)).drop (j + 1)) = 0) (h1 : 0 < val ((padDigits p (n % 10 ^ p)).drop j)) :
    upointed n p = decDigits (n / 10 ^ p) ++ 46 :: (padDigits p (n % 10 ^ p)).take (j + 1) := by
  have e := YtlmdpamehhcblaaGreatDoorD.upad_eq n p hp
  have hl := YtlmdpamehhcblaaGreatDoorD.padDigits_length p (n % 10 ^ p)
  have hall := YtlmdpamehhcblaaGreatDoorD.padDigits_all p (n % 10 ^ p) hp (Nat.mod_lt _ (Nat.pow_pos (by decide)))
  have et : (upad n p).take ((upad n p).length - p) = decDigits (n / 10 ^ p) := by
    rw [e, List.length_append, hl, Nat.add_sub_cancel, List.take_left]
  have ed : urest n p = Lib.trimRightS (padDigits p (n % 10 ^ p)) [48] := by
    unfold YtlmdpamehhcblaaGreatDoorD.urest
    rw [e, List.length_append, hl, Nat.add_sub_cancel, List.drop_left]
  rw [trim_take hall (by omega) h0 h1] at ed
  have hne : urest n p ≠ [] := by
    rw [ed]
    intro hh
    have := congrArg List.length hh
    rw [List.length_take, hl] at this
    simp at this; omega
  unfold YtlmdpamehhcblaaGreatDoorD.upointed
  rw [if_neg hne, et, ed]
set_option maxHeartbeats 1000000 in
theorem Plain13_c (w : World) (n : Nat) (hn : n < 1000000000000000000) : Calls Tryz.prog 170 #[.int .i64 n] w fun e w' => e = .returned (.string (bs (decDigits n))) ∧ Gr w w' := by
  have HO := fun w => of1_c w (n : Int) (by omega) (by omega)
  rw [YtlmdpamehhcblaaGreatDoorD.itoa_nat] at HO
  have HO := Lib.hid HO
  go_enter Tryz.func170, Tryz.ntmps170
  go_wp2_with fail
  refine (HO.out _).mono ?_
  rintro e w1 ⟨rfl, hg⟩
  go_wp2_with fail
  go_ret
  exact ⟨rfl, hg⟩
/-- The steps of decimal, as facts on numbers. -/
structure DecF (p : Nat) (V : Nat → Nat) (P : Nat → Int) (x : Nat → Nat) : Prop where
  pp : ∀ j, j ≤ p → 1 ≤ P j ∧ P j ≤ 10000
  vv : ∀ j, V j ≤ 10000
  step : ∀ j, j < p → (P j).tdiv 10 = P (j + 1) ∧ P j / 10 = P (j + 1) ∧ (V j : Int).tdiv (P (j + 1)) = x j ∧ (V j : Int) / P (j + 1) = x j ∧ (V j : Int).tmod (P (j + 1)) = V (j + 1) ∧ (V j : Int) % P (j + 1) = V (j + 1) ∧ x j ≤ 9
theorem decF_of {p : Nat} (hp : p ≤ 4) (D : List UInt8) (hl : D.length = p) (hall : D.all isDig = true) : ∃ x : Nat → Nat, DecF p (fun j => val (D.drop j)) (fun j => ((10 ^ (p - j) : Nat) : Int)) x ∧ ∀ j (hj : j < D.length), D[j].toNat = 48 + x j := by
  refine ⟨fun j => if h : j < D.length then D[j].toNat - 48 else 0, ⟨fun j hj => ?_, fun j => ?_, fun j hj => ?_⟩, fun j hj => ?_⟩
  · have h1 : 1 ≤ 10 ^ (p - j) := Nat.one_le_pow _ _ (by decide)
    have h2 : 10 ^ (p - j) ≤ 10 ^ 4 := Nat.pow_le_pow_right (by decide) (by omega)
    have e : (10 : Nat) ^ 4 = 10000 := by decide
    exact ⟨by show (1 : Int) ≤ ((10 ^ (p - j) : Nat) : Int); omega, by show ((10 ^ (p - j) : Nat) : Int) ≤ 10000; omega⟩
  · have hd : (D.drop j).all isDig = true := by
      rw [List.all_eq_true] at hall ⊢
      exact fun x hx => hall x (List.mem_of_mem_drop hx)
    have h1 := YtlmdpamehhcblaaGreatDoorD.val_lt hd
    have h2 : 10 ^ (D.drop j).length ≤ 10 ^ 4 := Nat.pow_le_pow_right (by decide) (by rw [List.length_drop]; omega)
    have e : (10 : Nat) ^ 4 = 10000 := by decide
    omega
  · obtain ⟨x, hx9, hx⟩ := dig_of_all hall j (by omega)
    have hv := drop_dig (A := D) (i := j) (by omega) x hx
    have ex : (if h : j < D.length then D[j].toNat - 48 else 0) = x := by rw [dif_pos (by omega), hx]; omega
    have hd : (D.drop (j + 1)).all isDig = true := by
      rw [List.all_eq_true] at hall ⊢
      exact fun x hx => hall x (List.mem_of_mem_drop hx)
    have hlt := YtlmdpamehhcblaaGreatDoorD.val_lt hd
    rw [List.length_drop, hl] at hlt
    rw [hl] at hv
    have hpe : 10 ^ (p - j) = 10 * 10 ^ (p - (j + 1)) := by rw [show p - j = (p - (j + 1)) + 1 by omega, Nat.pow_succ, Nat.mul_comm]
    have hP : 0 < 10 ^ (p - (j + 1)) := Nat.pow_pos (by decide)
    have d1 : val (D.drop j) / 10 ^ (p - (j + 1)) = x := by
      rw [hv, Nat.mul_comm, Nat.mul_add_div hP, Nat.div_eq_of_lt hlt, Nat.add_zero]
    have d2 : val (D.drop j) % 10 ^ (p - (j + 1)) = val (D.drop (j + 1)) := by
      rw [hv, Nat.mul_comm, Nat.mul_add_mod, Nat.mod_eq_of_lt hlt]
    have d3 : 10 ^ (p - j) / 10 = 10 ^ (p - (j + 1)) := by rw [hpe, Nat.mul_div_cancel_left _ (by decide)]
    have e1 : (((10 ^ (p - j) : Nat) : Int)) / 10 = ((10 ^ (p - (j + 1)) : Nat) : Int) := by rw [← d3]; rfl
    have e2 : ((val (D.drop j) : Nat) : Int) / ((10 ^ (p - (j + 1)) : Nat) : Int) = (x : Int) := by rw [← d1]; rfl
    have e3 : ((val (D.drop j) : Nat) : Int) % ((10 ^ (p - (j + 1)) : Nat) : Int) = ((val (D.drop (j + 1)) : Nat) : Int) := by rw [← d2]; rfl
    show _ ∧ _ ∧ _ = ((if h : j < D.length then D[j].toNat - 48 else 0 : Nat) : Int) ∧ _ = ((if h : j < D.length then D[j].toNat - 48 else 0 : Nat) : Int) ∧ _ ∧ _ ∧ (if h : j < D.length then D[j].toNat - 48 else 0) ≤ 9
    rw [ex]
    exact ⟨by rw [Int.tdiv_eq_ediv_of_nonneg (Int.natCast_nonneg _)]; exact e1, e1, by rw [Int.tdiv_eq_ediv_of_nonneg (Int.natCast_nonneg _)]; exact e2, e2, by rw [Int.tmod_eq_emod_of_nonneg (Int.natCast_nonneg _)]; exact e3, e3, hx9⟩
  · obtain ⟨a, b⟩ := dig_at hall j hj
    show D[j].toNat = 48 + (if h : j < D.length then D[j].toNat - 48 else 0)
    rw [dif_pos hj]; omega
set_option maxHeartbeats 4000000 in
theorem decimal13_c (w : World) (n p : Nat) (hn : n ≤ 100000) (hp : 1 ≤ p) (hp4 : p ≤ 4) : Calls Tryz.prog 92 #[.int .i64 n, .int .i64 ((10 ^ p : Nat) : Int)] w fun e w' => e = .returned (.string (bs (upointed n p))) ∧ Gr w w' := by
  have hpos : 0 < 10 ^ p := Nat.pow_pos (by decide)
  have hlt : n % 10 ^ p < 10 ^ p := Nat.mod_lt _ hpos
  have hl := YtlmdpamehhcblaaGreatDoorD.padDigits_length p (n % 10 ^ p)
  have hall := YtlmdpamehhcblaaGreatDoorD.padDigits_all p (n % 10 ^ p) hp hlt
  have hval := YtlmdpamehhcblaaGreatDoorD.val_padDigits p (n % 10 ^ p) hp hlt
  have HPl := Lib.hid (fun w m (hm : m ≤ 100000) => Plain13_c w m (by omega))
  have hq : n / 10 ^ p ≤ 100000 := Nat.le_trans (Nat.div_le_self _ _) hn
  have HQ := Lib.hid (fun w => Plain13_c w (n / 10 ^ p) (by omega))
  have q1 : (n : Int).tdiv ((10 ^ p : Nat) : Int) = ((n / 10 ^ p : Nat) : Int) := by rw [Int.tdiv_eq_ediv_of_nonneg (Int.natCast_nonneg _)]; rfl
  have q2 : (n : Int) / ((10 ^ p : Nat) : Int) = ((n / 10 ^ p : Nat) : Int) := rfl
  have q3 : (n : Int).tmod ((10 ^ p : Nat) : Int) = ((n % 10 ^ p : Nat) : Int) := by rw [Int.tmod_eq_emod_of_nonneg (Int.natCast_nonneg _)]; rfl
  have q4 : (n : Int) % ((10 ^ p : Nat) : Int) = ((n % 10 ^ p : Nat) : Int) := rfl
  have lq : (bs (decDigits (n / 10 ^ p))).size ≤ 6 := by rw [bs_size]; exact YtlmdpamehhcblaaGreatDoorD.len6 (by omega)
  by_cases h0 : n % 10 ^ p = 0
  · rw [upointed_zero hp h0]
    rw [h0] at q3 q4
    have d1 : 1 ≤ ((10 ^ p : Nat) : Int) := by omega
    have d2 : ((10 ^ p : Nat) : Int) ≤ 10000 := by
      have h2 : 10 ^ p ≤ 10 ^ 4 := Nat.pow_le_pow_right (by decide) hp4
      have e : (10 : Nat) ^ 4 = 10000 := by decide
      omega
    have q1i : ((n / 10 ^ p : Nat) : Int) ≤ 100000 := by omega
    have q0i : 0 ≤ ((n / 10 ^ p : Nat) : Int) := Int.natCast_nonneg _
    clear hlt hl hall hval HPl h0 hpos hq
    generalize bs (decDigits (n / 10 ^ p)) = qt at *
    generalize ((n / 10 ^ p : Nat) : Int) = q at *
    generalize ((10 ^ p : Nat) : Int) = d at *
    go_enter Tryz.func92, Tryz.ntmps92
    go_wp2_with fail
    refine (HQ.out _).mono ?_
    rintro e w1 ⟨rfl, hg1⟩
    go_wp2_with fail
    go_ret
    exact ⟨rfl, hg1⟩
  · have HT := Lib.hid (fun j => upointed_take (n := n) (p := p) (j := j) hp)
    obtain ⟨x, HF, HX⟩ := decF_of hp4 _ hl hall
    obtain ⟨res, hres⟩ : ∃ res, res = bs (upointed n p) := ⟨_, rfl⟩
    rw [← hres]
    have HR := Lib.hid hres
    have V0 : val ((padDigits p (n % 10 ^ p)).drop 0) = n % 10 ^ p := by rw [List.drop_zero, hval]
    have e0 : ((n % 10 ^ p : Nat) : Int) = ((fun j => val ((padDigits p (n % 10 ^ p)).drop j)) 0 : Nat) := by show _ = ((val ((padDigits p (n % 10 ^ p)).drop 0) : Nat) : Int); rw [V0]
    have ep : ((10 ^ p : Nat) : Int) = (fun j => ((10 ^ (p - j) : Nat) : Int)) 0 := rfl
    have hv0 : 0 < (fun j => val ((padDigits p (n % 10 ^ p)).drop j)) 0 := by show 0 < val _; rw [V0]; omega
    rw [e0] at q3 q4
    rw [ep] at q1 q2 q3 q4
    show Calls Tryz.prog 92 #[.int .i64 n, .int .i64 ((fun j => ((10 ^ (p - j) : Nat) : Int)) 0)] w _
    have HT2 : ∀ j, j + 1 ≤ p → (fun j => val ((padDigits p (n % 10 ^ p)).drop j)) (j + 1) = 0 → 0 < (fun j => val ((padDigits p (n % 10 ^ p)).drop j)) j → upointed n p = decDigits (n / 10 ^ p) ++ 46 :: (padDigits p (n % 10 ^ p)).take (j + 1) := fun j a b c => HT.out j a b c
    have HV : ∀ j, j ≤ p → (fun j => val ((padDigits p (n % 10 ^ p)).drop j)) p = 0 := fun j hj => by show val ((padDigits p (n % 10 ^ p)).drop p) = 0; rw [List.drop_eq_nil_of_le (by omega), YtlmdpamehhcblaaGreatDoorD.val_nil]
    have HVp := HV 0 (by omega)
    generalize (fun j => val ((padDigits p (n % 10 ^ p)).drop j)) = V at *
    generalize (fun j => ((10 ^ (p - j) : Nat) : Int)) = P at *
    clear HT HV V0 e0 ep hval hall hlt hpos hres h0
    generalize padDigits p (n % 10 ^ p) = D at *
    have HF := Lib.hid HF
    have HX := Lib.hid HX
    have HT2 := Lib.hid HT2
    have q1i : ((n / 10 ^ p : Nat) : Int) ≤ 100000 := by omega
    have q0i : 0 ≤ ((n / 10 ^ p : Nat) : Int) := Int.natCast_nonneg _
    obtain ⟨p0, p1⟩ := HF.out.pp 0 (by omega)
    have v0 := HF.out.vv 0
    have HH := Lib.hid (show bs (decDigits (n / 10 ^ p)) ++ { data := #[46] } = bs (decDigits (n / 10 ^ p) ++ 46 :: D.take 0) by
      rw [List.take_zero]
      show bs (decDigits (n / 10 ^ p)) ++ bs [46] = _
      rw [bs_append])
    have HL := Lib.hid (show (decDigits (n / 10 ^ p)).length ≤ 6 by rw [← bs_size]; exact lq)
    clear hq
    generalize ((n / 10 ^ p : Nat) : Int) = q at *
    generalize decDigits (n / 10 ^ p) = H at *
    have hb0 : (((V 0 : Nat) : Int) == 0) = false := by rw [beq_eq_false_iff_ne]; omega
    go_enter Tryz.func92, Tryz.ntmps92
    go_wp2_with fail
    refine (HQ.out _).mono ?_
    rintro e w1 ⟨rfl, hg1⟩
    go_wp2_with fail
    go_loopg [1, 5, 6] p (fun k d s r wr => ∃ j : Nat, k + j = p ∧ d = .int .i64 (P j) ∧ s = .string (bs (H ++ 46 :: D.take j)) ∧ r = .int .i64 (V j : Nat) ∧ Aside (Gr w wr ∧ (j = 0 → 0 < V 0) ∧ ∀ i, j = i + 1 → 0 < V i))
    case atStart => exact ⟨0, rfl, rfl, by rw [HH.out], rfl, hg1, fun _ => hv0, fun i h => absurd h (by omega)⟩
    case round =>
      obtain ⟨j, hj, rfl, rfl, rfl, A⟩ := hrel
      have vj := HF.out.vv j
      by_cases hz : V j = 0
      · have hj0 : j ≠ 0 := by intro e; subst e; have := A.out.2.1 rfl; omega
        obtain ⟨i, rfl⟩ : ∃ i, j = i + 1 := ⟨j - 1, by omega⟩
        have hT := HT2.out i (by omega) hz (A.out.2.2 i rfl)
        have hR := HR.out
        rw [hT] at hR
        have HR2 := Lib.hid hR
        have hG := A.out.1
        clear A hT hR
        go_wp2_with fail
        go_ret
        exact ⟨by rw [HR2.out]; rfl, hG⟩
      · have hjp : j < p := by
          rcases Nat.lt_or_ge j p with h | h
          · exact h
          · exfalso
            have : j = p := by omega
            rw [this] at hz
            exact hz HVp
        have hvp : 0 < V j := by omega
        obtain ⟨s1, s2, s3, s4, s5, s6, s7⟩ := HF.out.step j hjp
        obtain ⟨pa, pb⟩ := HF.out.pp j (by omega)
        obtain ⟨pc, pd⟩ := HF.out.pp (j + 1) (by omega)
        have vj1 := HF.out.vv (j + 1)
        have hxj := HX.out j (by omega)
        have HPx := Lib.hid (fun w => HPl.out w (x j) (by omega))
        have hdx : decDigits (x j) = [D[j]'(by omega)] := by
          rw [YtlmdpamehhcblaaGreatDoorD.decDigits_small (by omega)]
          congr 1
          rw [← hxj]
          simp
        have ht : D.take (j + 1) = D.take j ++ [D[j]'(by omega)] := by rw [List.take_add_one, List.getElem?_eq_getElem (by omega)]; rfl
        have HS := Lib.hid (show bs (H ++ 46 :: D.take j) ++ bs (decDigits (x j)) = bs (H ++ 46 :: D.take (j + 1)) by
          rw [bs_append, hdx, ht]; simp)
        have z1 : (bs (H ++ 46 :: D.take j)).size ≤ 20 := by rw [bs_size]; have := HL.out; simp; omega
        have z2 : (bs (decDigits (x j))).size = 1 := by rw [bs_size, hdx]; rfl
        have A2 : Aside (Gr w wr) := A.out.1
        clear A hdx ht hxj
        generalize bs (H ++ 46 :: D.take j) = S at *
        generalize bs (decDigits (x j)) = T at *
        have HVJ := Lib.hid hvp
        go_wp2_with fail
        refine (HPx.out _).mono ?_
        rintro e w3 ⟨rfl, hg3⟩
        go_wp2_with fail
        go_roundg (gk - 1)
        case measure => omega
        case rel => exact ⟨j + 1, by omega, rfl, by rw [HS.out], rfl, A2.out.trans hg3, fun h => absurd h (by omega), fun i h => by rw [show i = j by omega]; exact HVJ.out⟩
theorem uvtext (u : Nat) : P12 (uval u) ∧ 0 < (uval u).num := by
  obtain ⟨v1, v2, v3⟩ := YtlmdpamehhcblaaGreatDoorD.uval_parts u
  exact ⟨P12.small (by omega) (by omega), v3⟩
/-- The quotient that Format makes first. -/
def qtext (m u : Nat) : List UInt8 := rtext (udiv m u)
theorem by_unit (w : World) (m u : Nat) (hm : m ≤ 100000) : Calls Tryz.prog 90 #[.string (bs (rtext ((m : Int) : Rat))), .string (bs (rtext (uval u)))] w fun e w' => e = .returned (.string (bs (qtext m u))) ∧ Gr w w' := by
  obtain ⟨pu, v3⟩ := uvtext u
  obtain ⟨v1, v2, _⟩ := YtlmdpamehhcblaaGreatDoorD.uval_parts u
  have pm : P12 ((m : Int) : Rat) := P12.small (by show (m : Int).natAbs < _; omega) (by show 1 < _; decide)
  have a1 : ((m : Int) : Rat).num = (m : Int) := rfl
  have a2 : ((m : Int) : Rat).den = 1 := rfl
  have h := by2_c w ((m : Int) : Rat) (uval u) pm pu v3 (by
    rw [a1, Int.natAbs_mul]
    have := Nat.mul_le_mul hm v2
    have e1 : (m : Int).natAbs = m := rfl
    have e2 : (((uval u).den : Nat) : Int).natAbs = (uval u).den := rfl
    rw [e1, e2]; omega) (by rw [a2]; omega)
  unfold RetR at h
  rw [a1, a2] at h
  exact h
theorem upointed0 (m : Nat) : upointed m 0 = decDigits m := by
  have hup : upad m 0 = decDigits m := by
    unfold YtlmdpamehhcblaaGreatDoorD.upad
    rw [if_neg (by have := List.length_pos_iff.2 (YtlmdpamehhcblaaGreatDoorD.decDigits_ne m); omega)]
  have hr : urest m 0 = [] := by
    unfold YtlmdpamehhcblaaGreatDoorD.urest
    rw [hup, Nat.sub_zero, List.drop_length]; rfl
  unfold YtlmdpamehhcblaaGreatDoorD.upointed
  rw [if_pos hr, hup, Nat.sub_zero, List.take_length]
theorem udiv0 (m : Nat) : udiv m 0 = ((m : Int) : Rat) := by
  unfold YtlmdpamehhcblaaGreatDoorD.udiv
  have e1 : (uval 0).den = 1 := rfl
  have e2 : (uval 0).num.natAbs = 1 := rfl
  rw [e1, e2, Nat.mul_one, show (((1 : Nat) : Int)) = 1 from rfl, Int.mul_one]
  have := Rat.mkRat_self ((m : Int) : Rat)
  exact this
theorem ubody_q (m : Nat) : ubody m 0 = qtext m 0 ∧ ubody m 3 = qtext m 3 ∧ ubody m 4 = qtext m 4 ∧ ubody m 1 = upointed m 3 ∧ ubody m 2 = upointed m 4 := by
  refine ⟨?_, rfl, rfl, rfl, rfl⟩
  have e : ubody m 0 = upointed m 0 := rfl
  unfold qtext
  rw [e, upointed0, udiv0, YtlmdpamehhcblaaGreatDoorD.rtext_ofInt, YtlmdpamehhcblaaGreatDoorD.itoa_nat]
theorem qtext_len (m u : Nat) (hm : m ≤ 100000) : (bs (qtext m u)).size ≤ 20 := by
  obtain ⟨s1, s2⟩ := YtlmdpamehhcblaaGreatDoorD.udiv_small (u := u) hm
  have h0 := YtlmdpamehhcblaaGreatDoorD.udiv_num m u
  have en : itoa (udiv m u).num = decDigits (udiv m u).num.natAbs := by
    obtain ⟨k, hk⟩ := Int.eq_ofNat_of_zero_le h0
    rw [hk, YtlmdpamehhcblaaGreatDoorD.itoa_nat]; rfl
  have l1 := YtlmdpamehhcblaaGreatDoorD.len6 (n := (udiv m u).num.natAbs) (by omega)
  have l2 := YtlmdpamehhcblaaGreatDoorD.len6 (n := (udiv m u).den) s2
  rw [bs_size]
  unfold qtext rtext
  rw [en]
  split
  · omega
  · rw [List.length_append, List.length_cons]; omega
set_option maxHeartbeats 1000000 in
set_option maxRecDepth 20000 in
theorem format13_pos (w : World) (um u : Int) (m : Nat) (W mt vt Q D3 D4 T : ByteArray) (hm : um = (m : Int)) (hm1 : m ≤ 100000) (hu0 : 0 ≤ u) (hu5 : u < 5) (zT : T.size ≤ 20) (zW : W.size ≤ 4) (zQ : Q.size ≤ 20)
    (hW : ∀ w, Calls Tryz.prog 28 #[.int .i64 u] w fun e w' => e = .returned (.tuple #[.string W, .int .i64 0]) ∧ Gr w w')
    (hO : ∀ w, Calls Tryz.prog 91 #[.int .i64 m] w fun e w' => e = .returned (.string mt) ∧ Gr w w')
    (hV : ∀ w, Calls Tryz.prog 83 #[.int .i64 u] w fun e w' => e = .returned (.string vt) ∧ Gr w w')
    (hB : ∀ w, Calls Tryz.prog 90 #[.string mt, .string vt] w fun e w' => e = .returned (.string Q) ∧ Gr w w')
    (hD3 : ∀ w, Calls Tryz.prog 92 #[.int .i64 m, .int .i64 1000] w fun e w' => e = .returned (.string D3) ∧ Gr w w')
    (hD4 : ∀ w, Calls Tryz.prog 92 #[.int .i64 m, .int .i64 10000] w fun e w' => e = .returned (.string D4) ∧ Gr w w')
    (hT : (u = 1 ∧ T = D3) ∨ (u = 2 ∧ T = D4) ∨ (u ≠ 1 ∧ u ≠ 2 ∧ T = Q)) :
    Calls Tryz.prog 30 #[.int .i64 um, .int .i64 u] w fun e w' => e = .returned (.tuple #[.string ({ data := #[] } ++ T ++ { data := #[32] } ++ W), .int .i64 0]) ∧ Gr w w' := by
  have HW := Lib.hid hW; have HO := Lib.hid hO; have HV := Lib.hid hV; have HB := Lib.hid hB; have HD3 := Lib.hid hD3; have HD4 := Lib.hid hD4
  clear hW hO hV hB hD3 hD4
  subst hm
  rcases hT with ⟨rfl, rfl⟩ | ⟨rfl, rfl⟩ | ⟨hu1, hu2, rfl⟩
  · clear HD4
    go_enter Tryz.func30, Tryz.ntmps30
    go_wp2_with fail
    refine (HW.out _).mono ?_
    rintro e w1 ⟨rfl, hg1⟩
    go_wp2_with fail
    refine (HO.out _).mono ?_
    rintro e w2 ⟨rfl, hg2⟩
    have G2 := hg1.trans hg2
    clear hg1 hg2
    go_wp2_with fail
    refine (HV.out _).mono ?_
    rintro e w3 ⟨rfl, hg3⟩
    have G3 := G2.trans hg3
    clear G2 hg3
    go_wp2_with fail
    refine (HB.out _).mono ?_
    rintro e w4 ⟨rfl, hg4⟩
    have G4 := G3.trans hg4
    clear G3 hg4
    go_wp2_with fail
    refine (HD3.out _).mono ?_
    rintro e w5 ⟨rfl, hg5⟩
    have G4 := G4.trans hg5
    go_wp2_with fail
    go_ret2
    exact ⟨rfl, G4⟩
  · clear HD3
    go_enter Tryz.func30, Tryz.ntmps30
    go_wp2_with fail
    refine (HW.out _).mono ?_
    rintro e w1 ⟨rfl, hg1⟩
    go_wp2_with fail
    refine (HO.out _).mono ?_
    rintro e w2 ⟨rfl, hg2⟩
    have G2 := hg1.trans hg2
    clear hg1 hg2
    go_wp2_with fail
    refine (HV.out _).mono ?_
    rintro e w3 ⟨rfl, hg3⟩
    have G3 := G2.trans hg3
    clear G2 hg3
    go_wp2_with fail
    refine (HB.out _).mono ?_
    rintro e w4 ⟨rfl, hg4⟩
    have G4 := G3.trans hg4
    clear G3 hg4
    go_wp2_with fail
    refine (HD4.out _).mono ?_
    rintro e w5 ⟨rfl, hg5⟩
    have G4 := G4.trans hg5
    go_wp2_with fail
    go_ret2
    exact ⟨rfl, G4⟩
  · have hb1 : (u == 1) = false := by rw [beq_eq_false_iff_ne]; exact hu1
    have hb2 : (u == 2) = false := by rw [beq_eq_false_iff_ne]; exact hu2
    clear HD3 HD4
    go_enter Tryz.func30, Tryz.ntmps30
    go_wp2_with fail
    refine (HW.out _).mono ?_
    rintro e w1 ⟨rfl, hg1⟩
    go_wp2_with fail
    refine (HO.out _).mono ?_
    rintro e w2 ⟨rfl, hg2⟩
    have G2 := hg1.trans hg2
    clear hg1 hg2
    go_wp2_with fail
    refine (HV.out _).mono ?_
    rintro e w3 ⟨rfl, hg3⟩
    have G3 := G2.trans hg3
    clear G2 hg3
    go_wp2_with fail
    refine (HB.out _).mono ?_
    rintro e w4 ⟨rfl, hg4⟩
    have G4 := G3.trans hg4
    clear G3 hg4
    go_wp2_with fail
    go_ret2
    exact ⟨rfl, G4⟩
set_option maxHeartbeats 1000000 in
set_option maxRecDepth 20000 in
theorem format13_neg (w : World) (um u : Int) (m : Nat) (W mt vt Q D3 D4 T : ByteArray) (hm : um = -(m : Int)) (hm0 : 0 < m) (hm1 : m ≤ 100000) (hu0 : 0 ≤ u) (hu5 : u < 5) (zT : T.size ≤ 20) (zW : W.size ≤ 4) (zQ : Q.size ≤ 20)
    (hW : ∀ w, Calls Tryz.prog 28 #[.int .i64 u] w fun e w' => e = .returned (.tuple #[.string W, .int .i64 0]) ∧ Gr w w')
    (hO : ∀ w, Calls Tryz.prog 91 #[.int .i64 m] w fun e w' => e = .returned (.string mt) ∧ Gr w w')
    (hV : ∀ w, Calls Tryz.prog 83 #[.int .i64 u] w fun e w' => e = .returned (.string vt) ∧ Gr w w')
    (hB : ∀ w, Calls Tryz.prog 90 #[.string mt, .string vt] w fun e w' => e = .returned (.string Q) ∧ Gr w w')
    (hD3 : ∀ w, Calls Tryz.prog 92 #[.int .i64 m, .int .i64 1000] w fun e w' => e = .returned (.string D3) ∧ Gr w w')
    (hD4 : ∀ w, Calls Tryz.prog 92 #[.int .i64 m, .int .i64 10000] w fun e w' => e = .returned (.string D4) ∧ Gr w w')
    (hT : (u = 1 ∧ T = D3) ∨ (u = 2 ∧ T = D4) ∨ (u ≠ 1 ∧ u ≠ 2 ∧ T = Q)) :
    Calls Tryz.prog 30 #[.int .i64 um, .int .i64 u] w fun e w' => e = .returned (.tuple #[.string ({ data := #[45] } ++ T ++ { data := #[32] } ++ W), .int .i64 0]) ∧ Gr w w' := by
  have HW := Lib.hid hW; have HO := Lib.hid hO; have HV := Lib.hid hV; have HB := Lib.hid hB; have HD3 := Lib.hid hD3; have HD4 := Lib.hid hD4
  clear hW hO hV hB hD3 hD4
  have hneg : -um = (m : Int) := by omega
  have hlt : um < 0 := by omega
  rcases hT with ⟨rfl, rfl⟩ | ⟨rfl, rfl⟩ | ⟨hu1, hu2, rfl⟩
  · clear HD4
    go_enter Tryz.func30, Tryz.ntmps30
    go_wp2_with fail
    refine (HW.out _).mono ?_
    rintro e w1 ⟨rfl, hg1⟩
    go_wp2_with fail
    refine (HO.out _).mono ?_
    rintro e w2 ⟨rfl, hg2⟩
    have G2 := hg1.trans hg2
    clear hg1 hg2
    go_wp2_with fail
    refine (HV.out _).mono ?_
    rintro e w3 ⟨rfl, hg3⟩
    have G3 := G2.trans hg3
    clear G2 hg3
    go_wp2_with fail
    refine (HB.out _).mono ?_
    rintro e w4 ⟨rfl, hg4⟩
    have G4 := G3.trans hg4
    clear G3 hg4
    go_wp2_with fail
    refine (HD3.out _).mono ?_
    rintro e w5 ⟨rfl, hg5⟩
    have G4 := G4.trans hg5
    go_wp2_with fail
    go_ret2
    exact ⟨rfl, G4⟩
  · clear HD3
    go_enter Tryz.func30, Tryz.ntmps30
    go_wp2_with fail
    refine (HW.out _).mono ?_
    rintro e w1 ⟨rfl, hg1⟩
    go_wp2_with fail
    refine (HO.out _).mono ?_
    rintro e w2 ⟨rfl, hg2⟩
    have G2 := hg1.trans hg2
    clear hg1 hg2
    go_wp2_with fail
    refine (HV.out _).mono ?_
    rintro e w3 ⟨rfl, hg3⟩
    have G3 := G2.trans hg3
    clear G2 hg3
    go_wp2_with fail
    refine (HB.out _).mono ?_
    rintro e w4 ⟨rfl, hg4⟩
    have G4 := G3.trans hg4
    clear G3 hg4
    go_wp2_with fail
    refine (HD4.out _).mono ?_
    rintro e w5 ⟨rfl, hg5⟩
    have G4 := G4.trans hg5
    go_wp2_with fail
    go_ret2
    exact ⟨rfl, G4⟩
  · have hb1 : (u == 1) = false := by rw [beq_eq_false_iff_ne]; exact hu1
    have hb2 : (u == 2) = false := by rw [beq_eq_false_iff_ne]; exact hu2
    clear HD3 HD4
    go_enter Tryz.func30, Tryz.ntmps30
    go_wp2_with fail
    refine (HW.out _).mono ?_
    rintro e w1 ⟨rfl, hg1⟩
    go_wp2_with fail
    refine (HO.out _).mono ?_
    rintro e w2 ⟨rfl, hg2⟩
    have G2 := hg1.trans hg2
    clear hg1 hg2
    go_wp2_with fail
    refine (HV.out _).mono ?_
    rintro e w3 ⟨rfl, hg3⟩
    have G3 := G2.trans hg3
    clear G2 hg3
    go_wp2_with fail
    refine (HB.out _).mono ?_
    rintro e w4 ⟨rfl, hg4⟩
    have G4 := G3.trans hg4
    clear G3 hg4
    go_wp2_with fail
    go_ret2
    exact ⟨rfl, G4⟩
set_option maxHeartbeats 1000000 in
theorem format13_far (w : World) (um unit : Int) (h : um < -100000 ∨ 100000 < um) : Calls Tryz.prog 30 #[.int .i64 um, .int .i64 unit] w fun e w' => e = .returned (textV (.error 2)) ∧ Gr w w' := by
  rcases h with h | h
  · go_enter Tryz.func30, Tryz.ntmps30
    go_wp2_with fail
    go_ret2
    exact ⟨rfl, Gr.refl _⟩
  · have h2 : ¬ um < -100000 := by omega
    go_enter Tryz.func30, Tryz.ntmps30
    go_wp2_with fail
    go_ret2
    exact ⟨rfl, Gr.refl _⟩
set_option maxHeartbeats 1000000 in
theorem format13_bad (w : World) (um unit : Int) (h0 : -100000 ≤ um) (h1 : um ≤ 100000) (hu : ¬ (0 ≤ unit ∧ unit < 5)) : Calls Tryz.prog 30 #[.int .i64 um, .int .i64 unit] w fun e w' => e = .returned (textV (.error 20)) ∧ Gr w w' := by
  have HW := fun w => Word13_c w unit
  rw [if_neg hu] at HW
  have HW := Lib.hid HW
  clear hu
  go_enter Tryz.func30, Tryz.ntmps30
  go_wp2_with fail
  refine (HW.out _).mono ?_
  rintro e w1 ⟨rfl, hg⟩
  go_wp2_with fail
  go_ret2
  exact ⟨rfl, hg⟩
theorem Format13_c (w : World) (um unit : Int) : Calls Tryz.prog 30 #[.int .i64 um, .int .i64 unit] w fun e w' => e = .returned (textV (uformat um unit)) ∧ Gr w w' := by
  unfold YtlmdpamehhcblaaGreatDoorD.uformat
  by_cases h : um < -100000 ∨ 100000 < um
  · rw [if_pos h]; exact format13_far w um unit h
  · rw [if_neg h]
    by_cases hu : 0 ≤ unit ∧ unit < 5
    · rw [if_pos hu]
      obtain ⟨u, rfl⟩ := Int.eq_ofNat_of_zero_le hu.1
      have hu5 : u < 5 := by omega
      have hm1 : um.natAbs ≤ 100000 := by omega
      have hl := YtlmdpamehhcblaaGreatDoorD.ubody_len (m := um.natAbs) hm1 hu5
      obtain ⟨b0, b3, b4, b1, b2⟩ := ubody_q um.natAbs
      have hT : ((u : Int) = 1 ∧ bs (ubody um.natAbs u) = bs (upointed um.natAbs 3)) ∨ ((u : Int) = 2 ∧ bs (ubody um.natAbs u) = bs (upointed um.natAbs 4)) ∨ ((u : Int) ≠ 1 ∧ (u : Int) ≠ 2 ∧ bs (ubody um.natAbs u) = bs (qtext um.natAbs u)) := by
        match u, hu5 with
        | 0, _ => right; right; exact ⟨by omega, by omega, by rw [b0]⟩
        | 1, _ => left; exact ⟨rfl, by rw [b1]⟩
        | 2, _ => right; left; exact ⟨rfl, by rw [b2]⟩
        | 3, _ => right; right; exact ⟨by omega, by omega, by rw [b3]⟩
        | 4, _ => right; right; exact ⟨by omega, by omega, by rw [b4]⟩
      have HW : ∀ w, Calls Tryz.prog 28 #[.int .i64 (u : Int)] w fun e w' => e = .returned (.tuple #[.string (bs (uword u)), .int .i64 0]) ∧ Gr w w' := fun w => by
        have := Word13_c w (u : Int)
        rw [if_pos hu] at this
        exact this
      have hO := fun w => whole2_c w (um.natAbs : Int) (by omega) (by omega)
      have hV := fun w => Value13_c w u hu5
      have hB := fun w => by_unit w um.natAbs u hm1
      have D3 := fun w => decimal13_c w um.natAbs 3 hm1 (by decide) (by decide)
      have D4 := fun w => decimal13_c w um.natAbs 4 hm1 (by decide) (by decide)
      have eT : ((u : Int)).toNat = u := rfl
      rw [eT]
      have zT : (bs (ubody um.natAbs u)).size ≤ 20 := by rw [bs_size]; exact hl
      have zW : (bs (uword u)).size ≤ 4 := by rw [bs_size]; exact uword_len u
      have zQ := qtext_len um.natAbs u hm1
      by_cases hs : um < 0
      · have e : bs ((if um < 0 then [45] else []) ++ ubody um.natAbs u ++ 32 :: uword u) = { data := #[45] } ++ bs (ubody um.natAbs u) ++ { data := #[32] } ++ bs (uword u) := by
          rw [if_pos hs]
          show _ = bs [45] ++ bs _ ++ bs [32] ++ bs _
          rw [bs_append, bs_append, bs_append, List.append_assoc ([45] ++ ubody um.natAbs u)]; rfl
        simp only [textV]
        rw [e]
        exact format13_neg w um u um.natAbs _ _ _ _ _ _ _ (by omega) (by omega) hm1 hu.1 hu.2 zT zW zQ HW hO hV hB D3 D4 hT
      · have e : bs ((if um < 0 then [45] else []) ++ ubody um.natAbs u ++ 32 :: uword u) = { data := #[] } ++ bs (ubody um.natAbs u) ++ { data := #[32] } ++ bs (uword u) := by
          rw [if_neg hs]
          show _ = bs [] ++ bs _ ++ bs [32] ++ bs _
          rw [bs_append, bs_append, bs_append, List.append_assoc ([] ++ ubody um.natAbs u)]; rfl
        simp only [textV]
        rw [e]
        exact format13_pos w um u um.natAbs _ _ _ _ _ _ _ (by omega) hm1 hu.1 hu.2 zT zW zQ HW hO hV hB D3 D4 hT
    · rw [if_neg hu]; exact format13_bad w um unit (by omega) (by omega) hu
theorem textV_two (r : Except Int (List UInt8)) : ∃ (x : ByteArray) (b : Int), textV r = .tuple #[.string x, .int .i64 b] := by
  cases r with
  | ok q => exact ⟨_, 0, rfl⟩
  | error e => exact ⟨_, e, rfl⟩
set_option maxHeartbeats 1000000 in
theorem Writes_c (w : World) (he : Env w) (um unit : Int) : Calls Tryz.prog 5 #[.int .i64 um, .int .i64 unit] w fun e w' => e = .returned (.bool true) ∧ Gr w w' := by
  have HA := Lib.hid (fun w he => awake13_c w he)
  have HE := Lib.hid he
  have F1 := fun w he => Format_c w he um unit
  have F2 := fun w => Format13_c w um unit
  obtain ⟨x, c, hxc⟩ := textV_two (uformat um unit)
  rw [hxc] at F1 F2
  have F1 := Lib.hid F1; have F2 := Lib.hid F2
  clear he hxc
  go_enter Tryz.func5, Tryz.ntmps5
  go_wp2_with fail
  refine (F1.out _ HE.out).mono ?_
  rintro e w1 ⟨rfl, hg1⟩
  go_wp2_with fail
  refine (F2.out _).mono ?_
  rintro e w2 ⟨rfl, hg2⟩
  have G2 := hg1.trans hg2
  clear hg1 hg2
  go_wp2_with fail
  refine (HA.out _ (HE.out.gr G2)).mono ?_
  rintro e w5 ⟨rfl, hg5⟩
  go_wp2_with fail
  go_ret
  exact ⟨by simp, G2.trans hg5⟩
end Go.Proofs.YtlmdpamehhcblaaGreatDoor
