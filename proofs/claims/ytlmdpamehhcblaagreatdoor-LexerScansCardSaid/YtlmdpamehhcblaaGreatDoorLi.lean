import Derived.Test.YtlmdpamehhcblaaGreatDoorLh
/- Contracts of the lexer: Decimal. -/
namespace Go.Proofs.YtlmdpamehhcblaaGreatDoor
open Go.RowKit Go.Shelf
open Go.Lib (itoa decDigits)
open YtlmdpamehhcblaaGreatDoorD (isDig val rtext Q stripN fin fracD decB decT)

theorem fin_pow2 {d : Nat} (h0 : 0 < d) (h : fin d = true) : ∃ k, d ∣ 10 ^ k ∧ 2 ^ k ≤ d := by
  obtain ⟨a, e1, _, h1⟩ := YtlmdpamehhcblaaGreatDoorD.stripN_spec (p := 2) (by decide) d d (Nat.le_refl _) h0
  obtain ⟨b, e2, _, h2⟩ := YtlmdpamehhcblaaGreatDoorD.stripN_spec (p := 5) (by decide) _ (stripN 2 d) (Nat.le_refl _) h1
  unfold fin at h
  rw [beq_iff_eq] at h
  rw [h, Nat.mul_one] at e2
  rw [e2] at e1
  refine ⟨a + b, ?_, ?_⟩
  · rw [show (10 : Nat) = 2 * 5 by rfl, Nat.mul_pow, Nat.pow_add 2 a b, Nat.pow_add 5 a b]
    refine ⟨2 ^ b * 5 ^ a, ?_⟩
    rw [e1]
    simp only [Nat.mul_assoc, Nat.mul_comm, Nat.mul_left_comm]
  · rw [e1, Nat.pow_add]
    exact Nat.mul_le_mul_left _ (Nat.pow_le_pow_left (by decide) _)
theorem half_pow2 {k d : Nat} (h : 2 ^ k ≤ d) (hd : d < YtlmdpamehhcblaaGreatDoorD.Half) : k ≤ 2000 := by
  have key : ∀ m, YtlmdpamehhcblaaGreatDoorD.halfE = m → k ≤ 4 * m := by
    intro m hm
    have e : YtlmdpamehhcblaaGreatDoorD.Half = 10 ^ m := by unfold YtlmdpamehhcblaaGreatDoorD.Half; rw [hm]
    rw [e] at hd
    have h1 : 10 ^ m ≤ 2 ^ (4 * m) := by
      rw [Nat.pow_mul]; exact Nat.pow_le_pow_left (by decide) _
    have h2 : 2 ^ k < 2 ^ (4 * m) := by omega
    exact Nat.le_of_lt ((Nat.pow_lt_pow_iff_right (by decide)).1 h2)
  have := key _ rfl
  rw [YtlmdpamehhcblaaGreatDoorD.halfE_eq] at this
  exact this
theorem frac_len : ∀ (f r d : Nat), (fracD f r d).length ≤ f
  | 0, _, _ => Nat.le_refl _
  | f + 1, r, d => by
    show (if r = 0 then [] else _ :: fracD f _ _).length ≤ _
    split
    · exact Nat.zero_le _
    · have := frac_len f (10 * r % d) d
      simp; omega
/-- The state of the writing of decimals. -/
def DecSt (n d k : Nat) (pre : List UInt8) (j r : Nat) (T : List UInt8) (N : Nat) : Prop :=
  (j = 0 ∧ r = n ∧ T = pre ∧ N = k + 1) ∨ (1 ≤ j ∧ r < d ∧ d ∣ r * 10 ^ N ∧ T ++ (if r = 0 then [] else (if j = 1 then [46] else []) ++ fracD N r d) = pre ++ decB n d)
theorem DecSt.first {n d k : Nat} {pre : List UInt8} {r : Nat} {T : List UInt8} {N : Nat} (h : DecSt n d k pre 0 r T N) (hd : 0 < d) (hf : fin d = true) (hk : d ∣ 10 ^ k) : r = n ∧ N = k + 1 ∧ DecSt n d k pre 1 (r % d) (T ++ decDigits (r / d)) k := by
  rcases h with ⟨_, rfl, rfl, rfl⟩ | ⟨h, _⟩
  · refine ⟨rfl, rfl, .inr ⟨Nat.le_refl _, Nat.mod_lt _ hd, Nat.dvd_trans hk (Nat.dvd_mul_left _ _), ?_⟩⟩
    unfold decB
    rw [List.append_assoc]
    congr 2
    by_cases h0 : r % d = 0
    · rw [if_pos h0, if_pos h0]
    · rw [if_neg h0, if_neg h0, if_pos rfl, YtlmdpamehhcblaaGreatDoorD.frac_fuel d k _ _ (Nat.dvd_trans (YtlmdpamehhcblaaGreatDoorD.fin_pow hd hf) (Nat.dvd_mul_left _ _)) (Nat.dvd_trans hk (Nat.dvd_mul_left _ _)) (Nat.mod_lt _ hd)]
      rfl
  · omega
theorem DecSt.step {n d k : Nat} {pre : List UInt8} {j r : Nat} {T : List UInt8} {N : Nat} (h : DecSt n d k pre j r T N) (hj : 1 ≤ j) (h0 : r ≠ 0) : r < d ∧ 10 * r / d < 10 ∧ ∃ M, N = M + 1 ∧ DecSt n d k pre (j + 1) (10 * r % d) (T ++ ((if j = 1 then [46] else []) ++ decDigits (10 * r / d))) M := by
  rcases h with ⟨h, _⟩ | ⟨_, hr, hdv, e⟩
  · omega
  · obtain ⟨g, rfl, e1, d1, l1, l2⟩ := YtlmdpamehhcblaaGreatDoorD.frac_step hdv hr h0
    refine ⟨hr, l2, g, rfl, .inr ⟨by omega, l1, d1, ?_⟩⟩
    rw [if_neg h0, e1] at e
    rw [← e, YtlmdpamehhcblaaGreatDoorD.decDigits_small l2]
    by_cases h1 : 10 * r % d = 0
    · rw [if_pos h1, h1, YtlmdpamehhcblaaGreatDoorD.fracD_0]; simp
    · rw [if_neg h1, if_neg (show ¬ j + 1 = 1 by omega)]; simp
theorem DecSt.done {n d k : Nat} {pre : List UInt8} {j : Nat} {T : List UInt8} {N : Nat} (h : DecSt n d k pre j 0 T N) (hj : 1 ≤ j) : T = pre ++ decB n d := by
  rcases h with ⟨h, _⟩ | ⟨_, _, _, e⟩
  · omega
  · rwa [if_pos rfl, List.append_nil] at e
theorem DecSt.len {n d k : Nat} {pre : List UInt8} {j r : Nat} {T : List UInt8} {N : Nat} (h : DecSt n d k pre j r T N) : T.length ≤ (pre ++ decB n d).length := by
  rcases h with ⟨_, _, rfl, _⟩ | ⟨_, _, _, e⟩
  · simp
  · rw [← e]; simp
theorem decB_len {n d k : Nat} (hd : 0 < d) (hf : fin d = true) (hk : d ∣ 10 ^ k) (hn : n < YtlmdpamehhcblaaGreatDoorD.Lim) : (decB n d).length ≤ 1026 + k := by
  unfold decB
  have h1 : (decDigits (n / d)).length ≤ 1025 := by
    have := itoa_len_le (n := ((n / d : Nat) : Int)) (Nat.lt_of_le_of_lt (Nat.div_le_self _ _) hn)
    rwa [YtlmdpamehhcblaaGreatDoorD.itoa_nat] at this
  rw [List.length_append]
  split
  · simp; omega
  · rw [YtlmdpamehhcblaaGreatDoorD.frac_fuel d k _ _ (Nat.dvd_trans (YtlmdpamehhcblaaGreatDoorD.fin_pow hd hf) (Nat.dvd_mul_left _ _)) (Nat.dvd_trans hk (Nat.dvd_mul_left _ _)) (Nat.mod_lt _ hd)]
    have := frac_len k (n % d) d
    simp; omega
theorem ten_t : bs (decDigits 10) = { data := #[49, 48] } := by
  have : decDigits 10 = [49, 48] := by decide +kernel
  rw [this]; rfl
theorem MulN (w : World) (he : Env w) (m : Nat) (hm : m < YtlmdpamehhcblaaGreatDoorD.Half) : Calls Tryz.prog 113 #[.string (bs (decDigits m)), .string { data := #[49, 48] }] w fun e w' => e = .returned (.tuple #[.string (bs (decDigits (10 * m))), .int .i64 0]) ∧ Gr w w' := by
  have h10 : (10 : Nat) < YtlmdpamehhcblaaGreatDoorD.Half := Nat.lt_of_lt_of_le (by decide : 10 < 10 ^ 2) (YtlmdpamehhcblaaGreatDoorD.le_half (by decide))
  have := Mul_c w he (m : Int) (10 : Nat) (YtlmdpamehhcblaaGreatDoorD.lt_half_lim hm) (YtlmdpamehhcblaaGreatDoorD.lt_half_lim h10) (by
    rw [← Int.natCast_mul]; exact YtlmdpamehhcblaaGreatDoorD.half_mul hm h10)
  unfold RetI at this
  rwa [YtlmdpamehhcblaaGreatDoorD.itoa_nat, YtlmdpamehhcblaaGreatDoorD.itoa_nat, ← Int.natCast_mul, YtlmdpamehhcblaaGreatDoorD.itoa_nat, ten_t, Nat.mul_comm] at this
/-- What Decimal returns. -/
def RetDec (r : List UInt8 × Nat) (w : World) (e : Ending) (w' : World) : Prop := e = .returned (.tuple #[.string (bs r.1), .int .i64 (r.2 : Nat)]) ∧ Gr w w'
set_option maxHeartbeats 1000000 in
theorem Decimal_bad (w : World) (he : Env w) (l : List UInt8) (hl : l.length < 4294967281) (hb : rchk l ≠ 0) : Calls Tryz.prog 62 #[.string (bs l)] w fun e w' => e = .returned (.tuple #[.string (bs []), .int .i64 (rchk l)]) ∧ Gr w w' := by
  have H1 := Lib.hid (Parts_bad w he l hl hb)
  unfold RetBad2 at H1
  generalize rchk l = c at *
  generalize bs l = s at *
  go_enter Tryz.func62, Tryz.ntmps62
  go_wp2_with fail
  refine H1.out.mono ?_
  rintro e w1 ⟨rfl, hg1⟩
  go_wp2_with fail
  go_ret2
  exact ⟨rfl, hg1⟩
set_option maxHeartbeats 4000000 in
set_option maxRecDepth 20000 in
theorem Decimal_c (w : World) (he : Env w) (q : Rat) (hq : Q q) : Calls Tryz.prog 62 #[.string (bs (rtext q))] w (RetDec (decT q) w) := by
  have HP := Lib.hid (Parts_c w he q hq)
  have hd0 : 0 < q.den := q.den_pos
  have HF := Lib.hid (fun w he => finite_c w he q.den hq.ld hd0)
  rw [YtlmdpamehhcblaaGreatDoorD.itoa_nat] at HP
  have HE := Lib.hid he
  unfold RetDec
  by_cases hf : fin q.den = true
  · have e : decT q = ((if q.num < 0 then [45] else []) ++ decB q.num.natAbs q.den, 0) := by unfold decT; rw [if_pos hf]
    rw [e]
    clear e
    rw [hf] at HF
    obtain ⟨k, hk, hk2⟩ := fin_pow2 hd0 hf
    have hk3 := half_pow2 hk2 hq.d
    have hlen := decB_len hd0 hf hk hq.ln
    have hnL := hq.ln
    have hdH := hq.d
    have hdL := hq.ld
    generalize hn : q.num.natAbs = n at *
    have CP := fun w => CutPrefix_c w (itoa q.num) [45]
    have hpre : Lib.hasPrefix (itoa q.num) [45] = decide (q.num < 0) ∧ Lib.trimPrefix (itoa q.num) [45] = decDigits n := by
      by_cases hs : q.num < 0
      · have e : itoa q.num = 45 :: decDigits n := by
          rw [show q.num = -((n : Nat) : Int) by omega, YtlmdpamehhcblaaGreatDoorD.itoa_neg (by omega)]
        rw [e, decide_eq_true hs]
        exact ⟨rfl, rfl⟩
      · have e : itoa q.num = decDigits n := by
          rw [show q.num = ((n : Nat) : Int) by omega, YtlmdpamehhcblaaGreatDoorD.itoa_nat]
        rw [e, decide_eq_false hs]
        have hp : Lib.hasPrefix (decDigits n) [45] = false := by
          unfold Lib.hasPrefix
          have := YtlmdpamehhcblaaGreatDoorD.decDigits_no45 n
          cases hd : decDigits n with
          | nil => exact absurd hd (YtlmdpamehhcblaaGreatDoorD.decDigits_ne n)
          | cons c r =>
            rw [hd] at this
            simp only [List.head?_cons, ne_eq, Option.some.injEq] at this
            simp [List.isPrefixOf, Ne.symm this]
        refine ⟨hp, ?_⟩
        unfold Lib.trimPrefix
        rw [hp]; rfl
    have HSN := Lib.hid (fun h : ¬ q.num < 0 => (by rw [show q.num = ((n : Nat) : Int) by omega, YtlmdpamehhcblaaGreatDoorD.itoa_nat] : bs (itoa q.num) = bs (decDigits n)))
    rw [hpre.1, hpre.2] at CP
    have CP := Lib.hid CP
    clear hpre
    generalize hpr : (if q.num < 0 then [45] else [] : List UInt8) = pre at *
    have hprl : pre.length ≤ 1 := by rw [← hpr]; split <;> simp
    have QN := Lib.hid (fun w he m (hm : m < YtlmdpamehhcblaaGreatDoorD.Lim) => QuoN w he m q.den hm hdL hd0)
    have RN := Lib.hid (fun w he m (hm : m < YtlmdpamehhcblaaGreatDoorD.Lim) => RemN w he m q.den hm hdL hd0)
    have MN := Lib.hid MulN
    have F1 := Lib.hid (fun r T N (h : DecSt n q.den k pre 0 r T N) => h.first hd0 hf hk)
    have F2 := Lib.hid (fun j r T N (h : DecSt n q.den k pre j r T N) (hj : 1 ≤ j) (h0 : r ≠ 0) => h.step hj h0)
    have F3 := Lib.hid (fun j T N (h : DecSt n q.den k pre j 0 T N) (hj : 1 ≤ j) => h.done hj)
    have F4 := Lib.hid (fun j r T N (h : DecSt n q.den k pre j r T N) => h.len)
    have hsz : (pre ++ decB n q.den).length ≤ 4000 := by rw [List.length_append]; omega
    have h10L : (10 : Nat) < YtlmdpamehhcblaaGreatDoorD.Half := Nat.lt_of_lt_of_le (by decide : 10 < 10 ^ 2) (YtlmdpamehhcblaaGreatDoorD.le_half (by decide))
    have ML := Lib.hid (fun r (h : r < q.den) => (by rw [Nat.mul_comm]; exact YtlmdpamehhcblaaGreatDoorD.half_mul (Nat.lt_trans h hdH) h10L : 10 * r < YtlmdpamehhcblaaGreatDoorD.Lim))
    have HH := Lib.hid hdH
    have HNL := Lib.hid hnL
    have HZ := Lib.hid isZ
    clear he hn hq hk hk2 hlen hnL hdH hdL h10L hf
    generalize q.den = d at *
    generalize bs (itoa q.num) = sn at *
    generalize bs (rtext q) = sq at *
    generalize decB n d = D at *
    by_cases hs : q.num < 0
    case' pos =>
      clear HSN
      rw [if_pos hs] at hpr
      rw [decide_eq_true hs] at CP
      have HPR := Lib.hid hpr
      clear hs hpr
      go_enter Tryz.func62, Tryz.ntmps62
      go_wp2_with fail
      refine HP.out.mono ?_
      rintro e w1 ⟨rfl, hg1⟩
      go_wp2_with fail
      refine (HF.out _ (HE.out.gr hg1)).mono ?_
      rintro e w2 ⟨rfl, hg2⟩
      have G2 := Lib.hid (hg1.trans hg2)
      clear hg1 hg2
      go_wp2_with fail
      refine (CP.out _).mono ?_
      rintro e w3 ⟨rfl, rfl⟩
      go_wp2_with fail
      refine (WriteByte_c _ w2.heap.size w2.heap.size [] 45 (by decide) (Bd.new w2) (by simp) (by simp)).mono ?_
      rintro e w3 ⟨rfl, hd3, hb3⟩
      have G3 := Lib.hid ((G2.out.alloc (.cells #[.pointer none, .slice none 0 0] 151)).trans_below hb3 G2.out.size)
      have S3 := Lib.hid hb3.size
      have D3 : Aside (Bd w3 w2.heap.size w2.heap.size pre) := by rw [← HPR.out]; exact hd3
      clear hb3 hd3
      have HB := Lib.hid G2.out.size
      have LB := Lib.hid D3.out.lt
      clear G2 S3
      go_wp2_with fail
      generalize w2.heap.size = B at *
      clear HP HF CP
    case' neg =>
      have esn := HSN.out hs
      clear HSN
      subst esn
      rw [if_neg hs] at hpr
      rw [decide_eq_false hs] at CP
      have HPR := Lib.hid hpr
      clear hs hpr
      go_enter Tryz.func62, Tryz.ntmps62
      go_wp2_with fail
      refine HP.out.mono ?_
      rintro e w1 ⟨rfl, hg1⟩
      go_wp2_with fail
      refine (HF.out _ (HE.out.gr hg1)).mono ?_
      rintro e w2 ⟨rfl, hg2⟩
      have G2 := Lib.hid (hg1.trans hg2)
      clear hg1 hg2
      go_wp2_with fail
      refine (CP.out _).mono ?_
      rintro e w3 ⟨rfl, rfl⟩
      have D3' := Lib.hid (Bd.new w2)
      have G3' := Lib.hid (G2.out.alloc (.cells #[.pointer none, .slice none 0 0] 151))
      go_wp2_with fail
      generalize w2.alloc (.cells #[.pointer none, .slice none 0 0] 151) = w3 at *
      have D3 : Aside (Bd w3 w2.heap.size w2.heap.size pre) := by rw [← HPR.out]; exact D3'.out
      have G3 := G3'
      have HB := Lib.hid G2.out.size
      have LB := Lib.hid D3.out.lt
      clear D3' G3' G2
      generalize w2.heap.size = B at *
      clear HP HF CP
    all_goals (
      go_loopg [4, 11] (k + 1) (fun N v i wr => ∃ (j r : Nat) (T : List UInt8), v = .string (bs (decDigits r)) ∧ i = .int .i64 j ∧ j + N ≤ k + 1 ∧ Aside (Bd wr B B T ∧ Gr w wr ∧ B < wr.heap.size ∧ DecSt n d k pre j r T N))
      case atStart => exact ⟨0, n, pre, rfl, rfl, by omega, D3.out, G3.out, LB.out, .inl ⟨rfl, rfl, rfl, rfl⟩⟩
      case round =>
        clear D3 G3 LB
        obtain ⟨j, r, T, rfl, rfl, hjn, A⟩ := hrel
        have HJN := Lib.hid hjn
        clear hjn
        have E0 := Lib.hid (HE.out.gr A.out.2.1)
        have lB := Lib.hid A.out.2.2.1
        rcases Nat.eq_zero_or_pos j with hj | hj
        · subst hj
          obtain ⟨hr, hN, hS⟩ := F1.out _ _ _ A.out.2.2.2
          subst hr
          have lT := Nat.le_trans (F4.out _ _ _ _ hS) hsz
          rw [List.length_append] at lT
          have HQ := Lib.hid (fun w he => QN.out w he r HNL.out)
          have HR := Lib.hid (fun w he => RN.out w he r HNL.out)
          have HS := Lib.hid hS
          clear hS
          generalize r / d = x at HQ HS lT
          generalize r % d = y at HR HS
          go_wp2_with fail
          refine (HQ.out _ E0.out).mono ?_
          rintro e w4 ⟨rfl, hg4⟩
          have D4 := Lib.hid (A.out.1.below hg4)
          have G4 := Lib.hid (A.out.2.1.trans hg4)
          have L4 := Lib.hid (Nat.le_trans (Nat.le_of_lt lB.out) hg4.size)
          clear hg4 A E0
          go_wp2_with fail
          refine (WriteString_c _ B B T (decDigits x) D4.out L4.out (by omega)).mono ?_
          rintro e w5 ⟨rfl, hd5, hb5⟩
          have D5 := Lib.hid hd5
          have G5 := Lib.hid (G4.out.trans_below hb5 HB.out)
          clear hd5 hb5 D4 G4 L4
          go_wp2_with fail
          refine (HR.out _ (HE.out.gr G5.out)).mono ?_
          rintro e w6 ⟨rfl, hg6⟩
          have D6 := Lib.hid (D5.out.below hg6)
          have G6 := Lib.hid (G5.out.trans hg6)
          clear hg6 D5 G5
          go_wp2_with fail
          go_roundg k
          case measure => omega
          case rel => exact ⟨1, y, T ++ decDigits x, rfl, rfl, by omega, D6.out, G6.out, D6.out.lt, HS.out⟩
        · have j0 : ¬ (j : Int) = 0 := by omega
          have j1 : (0 : Int) < (j : Int) := by omega
          have jb : j ≤ 3000 := by have := HJN.out; omega
          by_cases h0 : r = 0
          · subst h0
            have hz := HZ.out 0
            rw [decide_eq_true rfl] at hz
            have hT := Lib.hid (F3.out _ _ _ A.out.2.2.2 hj)
            go_wp2_with fail
            refine (String_c _ B B T A.out.1 (Nat.le_of_lt lB.out)).mono ?_
            rintro e w4 ⟨rfl, hd4, hb4⟩
            go_wp2_with fail
            go_ret2
            exact ⟨by rw [hT.out]; rfl, A.out.2.1.trans_below hb4 HB.out⟩
          · have hz := HZ.out r
            rw [decide_eq_false h0] at hz
            obtain ⟨hr, l2, M, hN, hS⟩ := F2.out _ _ _ _ A.out.2.2.2 hj h0
            have lT := Nat.le_trans (F4.out _ _ _ _ hS) hsz
            rw [List.length_append, List.length_append] at lT
            have HM := Lib.hid (fun w he => MN.out w he r (Nat.lt_trans hr HH.out))
            have HQ := Lib.hid (fun w he => QN.out w he (10 * r) (ML.out r hr))
            have HR := Lib.hid (fun w he => RN.out w he (10 * r) (ML.out r hr))
            have HS := Lib.hid hS
            clear hS l2 hr h0
            generalize 10 * r / d = x at HQ HS lT
            generalize 10 * r % d = y at HR HS
            generalize 10 * r = r' at HM HQ HR
            by_cases hj1 : j = 1
            · subst hj1
              rw [if_pos rfl] at lT HS
              rw [List.length_singleton] at lT
              go_wp2_with fail
              refine (WriteByte_c _ B B T 46 (by decide) A.out.1 (Nat.le_of_lt lB.out) (by omega)).mono ?_
              rintro e w4 ⟨rfl, hd4, hb4⟩
              have D4 := Lib.hid hd4
              have G4 := Lib.hid (A.out.2.1.trans_below hb4 HB.out)
              clear hd4 hb4 A E0
              go_wp2_with fail
              refine (HM.out _ (HE.out.gr G4.out)).mono ?_
              rintro e w5 ⟨rfl, hg5⟩
              have D5 := Lib.hid (D4.out.below hg5)
              have G5 := Lib.hid (G4.out.trans hg5)
              clear hg5 D4 G4
              go_wp2_with fail
              refine (HQ.out _ (HE.out.gr G5.out)).mono ?_
              rintro e w6 ⟨rfl, hg6⟩
              have D6 := Lib.hid (D5.out.below hg6)
              have G6 := Lib.hid (G5.out.trans hg6)
              clear hg6 D5 G5
              go_wp2_with fail
              refine (WriteString_c _ B B (T ++ [46]) (decDigits x) D6.out (Nat.le_of_lt D6.out.lt) (by rw [List.length_append, List.length_singleton]; omega)).mono ?_
              rintro e w7 ⟨rfl, hd7, hb7⟩
              have D7 := Lib.hid hd7
              have G7 := Lib.hid (G6.out.trans_below hb7 HB.out)
              clear hd7 hb7 D6 G6
              go_wp2_with fail
              refine (HR.out _ (HE.out.gr G7.out)).mono ?_
              rintro e w8 ⟨rfl, hg8⟩
              have D8 := Lib.hid (D7.out.below hg8)
              have G8 := Lib.hid (G7.out.trans hg8)
              clear hg8 D7 G7
              go_wp2_with fail
              go_roundg M
              case measure => omega
              case rel => exact ⟨1 + 1, y, T ++ [46] ++ decDigits x, rfl, rfl, by have := HJN.out; omega, D8.out, G8.out, D8.out.lt, by rw [List.append_assoc]; exact HS.out⟩
            · rw [if_neg hj1] at lT HS
              rw [List.nil_append] at HS
              have j2 : ¬ (j : Int) = 1 := by omega
              rw [List.length_nil] at lT
              go_wp2_with fail
              refine (HM.out _ E0.out).mono ?_
              rintro e w5 ⟨rfl, hg5⟩
              have D5 := Lib.hid (A.out.1.below hg5)
              have G5 := Lib.hid (A.out.2.1.trans hg5)
              clear hg5 A E0
              go_wp2_with fail
              refine (HQ.out _ (HE.out.gr G5.out)).mono ?_
              rintro e w6 ⟨rfl, hg6⟩
              have D6 := Lib.hid (D5.out.below hg6)
              have G6 := Lib.hid (G5.out.trans hg6)
              clear hg6 D5 G5
              go_wp2_with fail
              refine (WriteString_c _ B B T (decDigits x) D6.out (Nat.le_of_lt D6.out.lt) (by omega)).mono ?_
              rintro e w7 ⟨rfl, hd7, hb7⟩
              have D7 := Lib.hid hd7
              have G7 := Lib.hid (G6.out.trans_below hb7 HB.out)
              clear hd7 hb7 D6 G6
              go_wp2_with fail
              refine (HR.out _ (HE.out.gr G7.out)).mono ?_
              rintro e w8 ⟨rfl, hg8⟩
              have D8 := Lib.hid (D7.out.below hg8)
              have G8 := Lib.hid (G7.out.trans hg8)
              clear hg8 D7 G7
              go_wp2_with fail
              go_roundg M
              case measure => omega
              case rel => exact ⟨j + 1, y, T ++ decDigits x, rfl, by go_num, by have := HJN.out; omega, D8.out, G8.out, D8.out.lt, HS.out⟩)
  · have e : decT q = ([], 14) := by unfold decT; rw [if_neg hf]
    rw [e]
    have hf' : fin q.den = false := by simpa using hf
    rw [hf'] at HF
    clear e hf hf' he hq
    generalize q.den = d at *
    generalize bs (itoa q.num) = sn at *
    generalize bs (rtext q) = sq at *
    go_enter Tryz.func62, Tryz.ntmps62
    go_wp2_with fail
    refine HP.out.mono ?_
    rintro e w1 ⟨rfl, hg1⟩
    go_wp2_with fail
    refine (HF.out _ (HE.out.gr hg1)).mono ?_
    rintro e w2 ⟨rfl, hg2⟩
    go_wp2_with fail
    go_ret2
    exact ⟨rfl, hg1.trans hg2⟩
end Go.Proofs.YtlmdpamehhcblaaGreatDoor
