import Derived.Test.YtlmdpamehhcblaaGreatDoorRg
/- Contracts of package ratio: Add, Neg. -/
namespace Go.Proofs.YtlmdpamehhcblaaGreatDoor
open Go.RowKit
open Go.Lib (itoa decDigits)
open YtlmdpamehhcblaaGreatDoorD (rtext rjoin cutc canon Q)

theorem ent222 : Ent 222 := ent_of Tryz.func222 rfl rfl
set_option maxHeartbeats 1000000 in
set_option maxRecDepth 20000 in
theorem add_c (w : World) (he : Env w) (g : Nat) (hs : S0 w g) (a b : Int) (ha : a.natAbs < YtlmdpamehhcblaaGreatDoorD.Lim) (hb : b.natAbs < YtlmdpamehhcblaaGreatDoorD.Lim) (hab : (a + b).natAbs < YtlmdpamehhcblaaGreatDoorD.Lim) :
    Calls Tryz.prog 172 #[.pointer (some ⟨g, 0, none⟩), .string (bs (itoa a)), .string (bs (itoa b))] w (RetT (a + b) w) := by
  have HD := Lib.hid (do_c w g _ ent222 hs a b (a + b) (fun w2 k2 => Add_c w2 (he.gr k2) a b ha hb hab))
  unfold RetT at *
  generalize bs (itoa (a + b)) = r at *
  generalize bs (itoa a) = a at *
  generalize bs (itoa b) = b at *
  go_enter Tryz.func172, Tryz.ntmps172
  go_wp2_with fail
  refine HD.out.mono ?_
  rintro e w1 ⟨rfl, hg⟩
  go_wp2_with fail
  go_ret
  exact ⟨rfl, hg⟩
set_option maxHeartbeats 2000000 in
set_option maxRecDepth 20000 in
theorem RAdd1_c (w : World) (he : Env w) (g : Nat) (hs : S0 w g) (n p m q : Int) (hn : n.natAbs < YtlmdpamehhcblaaGreatDoorD.Lim) (hp : p.natAbs < YtlmdpamehhcblaaGreatDoorD.Lim) (hm : m.natAbs < YtlmdpamehhcblaaGreatDoorD.Lim) (hq : q.natAbs < YtlmdpamehhcblaaGreatDoorD.Lim)
    (h1 : (n * q).natAbs < YtlmdpamehhcblaaGreatDoorD.Lim) (h2 : (m * p).natAbs < YtlmdpamehhcblaaGreatDoorD.Lim) (h3 : (n * q + m * p).natAbs < YtlmdpamehhcblaaGreatDoorD.Lim) (h4 : (p * q).natAbs < YtlmdpamehhcblaaGreatDoorD.Lim) :
    Calls Tryz.prog 171 #[.pointer (some ⟨g, 0, none⟩), .string (bs (itoa n)), .string (bs (itoa p)), .string (bs (itoa m)), .string (bs (itoa q))] w
      fun e w'' => e = .returned (.tuple #[.string (bs (itoa (n * q + m * p))), .string (bs (itoa (p * q)))]) ∧ Gr w w'' := by
  have M1 := Lib.hid (fun (w : World) (he : Env w) g h (hs : S0 w g) h0 h3 => hs.mul2 he (h := h) n q h0 h3 hn hq h1)
  have M2 := Lib.hid (fun (w : World) (he : Env w) g h (hs : S0 w g) h0 h3 => hs.mul2 he (h := h) m p h0 h3 hm hp h2)
  have M3 := Lib.hid (fun (w : World) (he : Env w) g h (hs : S0 w g) h0 h3 => hs.mul2 he (h := h) p q h0 h3 hp hq h4)
  have HA := Lib.hid (fun (w : World) (he : Env w) g (hs : S0 w g) => add_c w he g hs _ _ h1 h2 h3)
  have HE := Lib.hid he
  clear hn hp hm hq h1 h2 h3 h4 he
  unfold RetT at M1 M2 M3 HA
  generalize bs (itoa (n * q + m * p)) = u at *
  generalize bs (itoa (n * q)) = x at *
  generalize bs (itoa (m * p)) = y at *
  generalize bs (itoa (p * q)) = z at *
  generalize bs (itoa n) = n at *
  generalize bs (itoa m) = m at *
  generalize bs (itoa p) = p at *
  generalize bs (itoa q) = q at *
  go_enter Tryz.func171, Tryz.ntmps171
  go_wp2_with fail
  have N := new2 w (.string n) (.string q) 55
  have G5 := (Gr.refl w).alloc (.cells #[.string n, .string q] 55)
  have S5 := hs.gr G5
  refine (M1.out _ (HE.out.gr G5) _ _ S5 N.1 N.2).mono ?_
  rintro e w4 ⟨rfl, hg4⟩
  have G6 : Gr w w4 := G5.trans hg4
  have S6 := S5.gr hg4
  clear S5 G5 hg4 N
  go_wp2_with fail
  have N := new2 w4 (.string m) (.string p) 55
  have G7 := G6.alloc (.cells #[.string m, .string p] 55)
  have S7 := S6.gr ((Gr.refl _).alloc (.cells #[.string m, .string p] 55))
  refine (M2.out _ (HE.out.gr G7) _ _ S7 N.1 N.2).mono ?_
  rintro e w5 ⟨rfl, hg5⟩
  have G8 := G7.trans hg5
  have S8 := S7.gr hg5
  clear S6 S7 G6 G7 hg5 N
  go_wp2_with fail
  refine (HA.out _ (HE.out.gr G8) _ S8).mono ?_
  rintro e w6 ⟨rfl, hg6⟩
  have G9 := G8.trans hg6
  have S9 := S8.gr hg6
  clear S8 G8 hg6
  go_wp2_with fail
  have N := new2 w6 (.string p) (.string q) 55
  have G10 := G9.alloc (.cells #[.string p, .string q] 55)
  have S10 := S9.gr ((Gr.refl _).alloc (.cells #[.string p, .string q] 55))
  refine (M3.out _ (HE.out.gr G10) _ _ S10 N.1 N.2).mono ?_
  rintro e w7 ⟨rfl, hg7⟩
  go_wp2_with fail
  go_ret2
  exact ⟨rfl, G10.trans hg7⟩
set_option maxHeartbeats 1000000 in
theorem RAdd_c (w : World) (he : Env w) (a b : Rat) (ha : Q a) (hb : Q b) :
    Calls Tryz.prog 93 #[.string (bs (rtext a)), .string (bs (rtext b))] w (RetRQ (a + b) w) := by
  have l1 : (a.num * (b.den : Int)).natAbs < YtlmdpamehhcblaaGreatDoorD.Lim := by rw [YtlmdpamehhcblaaGreatDoorD.abs_mul]; exact YtlmdpamehhcblaaGreatDoorD.half_mul ha.n hb.d
  have l2 : (b.num * (a.den : Int)).natAbs < YtlmdpamehhcblaaGreatDoorD.Lim := by rw [YtlmdpamehhcblaaGreatDoorD.abs_mul]; exact YtlmdpamehhcblaaGreatDoorD.half_mul hb.n ha.d
  have l3 : (a.num * (b.den : Int) + b.num * (a.den : Int)).natAbs < YtlmdpamehhcblaaGreatDoorD.Lim := by
    have h1 := YtlmdpamehhcblaaGreatDoorD.abs_add (a.num * (b.den : Int)) (b.num * (a.den : Int))
    rw [YtlmdpamehhcblaaGreatDoorD.abs_mul, YtlmdpamehhcblaaGreatDoorD.abs_mul] at h1
    exact Nat.lt_of_le_of_lt h1 (YtlmdpamehhcblaaGreatDoorD.half_mul2 ha.n hb.d hb.n ha.d)
  have l4 : a.den * b.den < YtlmdpamehhcblaaGreatDoorD.Lim := YtlmdpamehhcblaaGreatDoorD.half_mul ha.d hb.d
  have HM := Lib.hid (made_c w he _ ent171 a b ha hb _ (a.den * b.den) l3 l4 (Nat.mul_ne_zero a.den_nz b.den_nz) (fun w' g he' hs => by
    have := RAdd1_c w' he' g hs a.num a.den b.num b.den ha.ln ha.ld hb.ln hb.ld l1 l2 l3 (by show ((a.den * b.den : Nat) : Int).natAbs < _; exact l4)
    exact this))
  rw [← YtlmdpamehhcblaaGreatDoorD.add_mk] at HM
  unfold RetRQ at HM ⊢
  clear l1 l2 l3 l4
  generalize bs (rtext (a + b)) = r at *
  generalize bs (rtext a) = sa at *
  generalize bs (rtext b) = sb at *
  go_enter Tryz.func93, Tryz.ntmps93
  go_wp2_with fail
  refine HM.out.mono ?_
  rintro e w1 ⟨rfl, hg1⟩
  go_wp2_with fail
  go_ret2
  exact ⟨rfl, hg1⟩
set_option maxHeartbeats 1000000 in
theorem RNeg_c (w : World) (he : Env w) (a : Rat) (ha : Q a) : Calls Tryz.prog 153 #[.string (bs (rtext a))] w (RetRQ (-a) w) := by
  have H1 := Lib.hid (Parts_c w he a ha)
  have H2 := Lib.hid (fun w => Neg_c w a.num ha.ln)
  have HJ := Lib.hid (fun w => by
    have l1 := itoa_len_le (n := -a.num) (by rw [Int.natAbs_neg]; exact ha.ln)
    have l2 := itoa_len_le (n := (a.den : Int)) ha.ld
    have := joined_c w (itoa (-a.num)) (itoa (a.den : Int)) (by omega)
    rw [YtlmdpamehhcblaaGreatDoorD.itoa_nat] at this
    have e : rjoin (itoa (-a.num)) (decDigits a.den) = rtext (-a) := YtlmdpamehhcblaaGreatDoorD.rjoin_q (-a)
    rw [e] at this
    rw [YtlmdpamehhcblaaGreatDoorD.itoa_nat]
    exact this : ∀ w, Calls Tryz.prog 186 #[.string (bs (itoa (-a.num))), .string (bs (itoa (a.den : Int)))] w fun e w' => e = .returned (.string (bs (rtext (-a)))) ∧ w' = w)
  unfold RetI at H2
  unfold RetRQ
  clear ha
  generalize bs (rtext (-a)) = r at *
  generalize bs (rtext a) = s at *
  generalize bs (itoa (-a.num)) = n' at *
  generalize bs (itoa a.num) = n at *
  generalize bs (itoa (a.den : Int)) = d at *
  go_enter Tryz.func153, Tryz.ntmps153
  go_wp2_with fail
  refine H1.out.mono ?_
  rintro e w1 ⟨rfl, hg1⟩
  go_wp2_with fail
  refine (H2.out _).mono ?_
  rintro e w2 ⟨rfl, hg2⟩
  go_wp2_with fail
  refine (HJ.out _).mono ?_
  rintro e w3 ⟨rfl, rfl⟩
  go_wp2_with fail
  go_ret2
  exact ⟨rfl, hg1.trans hg2⟩
end Go.Proofs.YtlmdpamehhcblaaGreatDoor
