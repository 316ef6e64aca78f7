import Derived.Test.YtlmdpamehhcblaaGreatDoorRd
/- Contracts of package ratio: made, Mul, Div. -/
namespace Go.Proofs.YtlmdpamehhcblaaGreatDoor
open Go.RowKit
open Go.Lib (itoa decDigits)
open YtlmdpamehhcblaaGreatDoorD (rtext rjoin cutc canon Q)

theorem no0 {d : Int} (h : d ≠ 0) : ((bs (itoa d)).toList == [48]) = false := by
  rw [bs_toList, beq_eq_false_iff_ne]
  intro e
  have h2 : itoa 0 = [48] := by decide +kernel
  rw [← h2] at e
  exact h (YtlmdpamehhcblaaGreatDoorD.itoa_inj e)
set_option maxHeartbeats 1000000 in
set_option maxRecDepth 20000 in
theorem made_c (w : World) (he : Env w) (k : Nat) (hk : Ent k) (a b : Rat) (ha : Q a) (hb : Q b) (n : Int) (d : Nat) (hn : n.natAbs < YtlmdpamehhcblaaGreatDoorD.Lim) (hd : d < YtlmdpamehhcblaaGreatDoorD.Lim) (h0 : d ≠ 0)
    (ho : ∀ w' g, Env w' → S0 w' g → Calls Tryz.prog k #[.pointer (some ⟨g, 0, none⟩), .string (bs (itoa a.num)), .string (bs (itoa (a.den : Int))), .string (bs (itoa b.num)), .string (bs (itoa (b.den : Int)))] w'
      fun e w'' => e = .returned (.tuple #[.string (bs (itoa n)), .string (bs (itoa (d : Int)))]) ∧ Gr w' w'') :
    Calls Tryz.prog 96 #[.string (bs (rtext a)), .string (bs (rtext b)), .func (.func k) #[] #[]] w (RetRQ (mkRat n d) w) := by
  have HK := Lib.hid (fun w he g h0 h1 => checks2_c w he g a b h0 h1 ha hb)
  have H1 := Lib.hid (fun w he => cutq_c w he a ha)
  have H2 := Lib.hid (fun w he => cutq_c w he b hb)
  have HO := Lib.hid ho
  have HLo := Lib.hid (fun w he g hs => lowest_c w he g hs n d hn hd h0)
  have hz := no0 (d := (d : Int)) (by omega)
  have HE := Lib.hid he
  clear he ha hb hn hd h0 ho
  unfold RetE at HK
  unfold RetR at HLo
  unfold RetRQ
  generalize bs (rtext (mkRat n d)) = r at *
  generalize bs (itoa n) = x at *
  generalize bs (itoa (d : Int)) = y at *
  generalize bs (itoa a.num) = an at *
  generalize bs (itoa b.num) = bn at *
  generalize bs (itoa (a.den : Int)) = ad at *
  generalize bs (itoa (b.den : Int)) = bd' at *
  generalize bs (rtext a) = sa at *
  generalize bs (rtext b) = sb at *
  go_enter Tryz.func96, Tryz.ntmps96
  go_wp2_with fail
  have N := new2 w (.string sa) (.string sb) 23
  refine (HK.out _ (HE.out.gr ((Gr.refl w).alloc _)) _ N.1 N.2).mono ?_
  rintro e w1 ⟨rfl, hg1⟩
  have G1 : Gr w w1 := ((Gr.refl w).alloc _).trans hg1
  clear hg1 N
  go_wp2_with fail
  obtain ⟨b1, C1⟩ := H1.out _ (HE.out.gr G1)
  refine C1.mono ?_
  rintro e w2 ⟨rfl, hg2⟩
  have G2 : Gr w w2 := G1.trans hg2
  clear hg2 C1 G1
  go_wp2_with fail
  obtain ⟨b2, C2⟩ := H2.out _ (HE.out.gr G2)
  refine C2.mono ?_
  rintro e w3 ⟨rfl, hg3⟩
  have G3 : Gr w w3 := G2.trans hg3
  clear hg3 C2 G2
  go_wp2_with fail
  rw [hk]
  go_wp2_with fail
  have S := S0.new w3
  have G4 := G3.alloc (.cells #[.int .i64 0] 126 (0, 0))
  refine (HO.out _ _ (HE.out.gr G4) S).mono ?_
  rintro e w4 ⟨rfl, hg4⟩
  have G6 : Gr w w4 := G4.trans hg4
  have S6 := S.gr hg4
  have c6 := S6.cell
  clear S G3 G4 hg4
  go_wp2_with fail
  refine (HLo.out _ (HE.out.gr G6) _ S6).mono ?_
  rintro e w5 ⟨rfl, hg5⟩
  have G7 : Gr w w5 := G6.trans hg5
  have c8 := (S6.gr hg5).cell
  clear c6 S6 G6 hg5
  go_wp2_with fail
  go_quiet (fail)
  go_wp2_with fail
  go_ret2
  exact ⟨rfl, G7.drewN _⟩
theorem ent97 : Ent 97 := ent_of Tryz.func97 rfl rfl
theorem ent169 : Ent 169 := ent_of Tryz.func169 rfl rfl
theorem ent171 : Ent 171 := ent_of Tryz.func171 rfl rfl
set_option maxHeartbeats 1000000 in
set_option maxRecDepth 20000 in
theorem RMul1_c (w : World) (he : Env w) (g : Nat) (hs : S0 w g) (n p m q : Int) (hn : n.natAbs < YtlmdpamehhcblaaGreatDoorD.Lim) (hp : p.natAbs < YtlmdpamehhcblaaGreatDoorD.Lim) (hm : m.natAbs < YtlmdpamehhcblaaGreatDoorD.Lim) (hq : q.natAbs < YtlmdpamehhcblaaGreatDoorD.Lim)
    (h1 : (n * m).natAbs < YtlmdpamehhcblaaGreatDoorD.Lim) (h2 : (p * q).natAbs < YtlmdpamehhcblaaGreatDoorD.Lim) :
    Calls Tryz.prog 97 #[.pointer (some ⟨g, 0, none⟩), .string (bs (itoa n)), .string (bs (itoa p)), .string (bs (itoa m)), .string (bs (itoa q))] w
      fun e w'' => e = .returned (.tuple #[.string (bs (itoa (n * m))), .string (bs (itoa (p * q)))]) ∧ Gr w w'' := by
  have M1 := Lib.hid (fun (w : World) (he : Env w) g h (hs : S0 w g) h0 h3 => hs.mul2 he (h := h) n m h0 h3 hn hm h1)
  have M2 := Lib.hid (fun (w : World) (he : Env w) g h (hs : S0 w g) h0 h3 => hs.mul2 he (h := h) p q h0 h3 hp hq h2)
  have HE := Lib.hid he
  clear hn hp hm hq h1 h2 he
  unfold RetT at M1 M2
  generalize bs (itoa (n * m)) = x at *
  generalize bs (itoa (p * q)) = y at *
  generalize bs (itoa n) = n at *
  generalize bs (itoa m) = m at *
  generalize bs (itoa p) = p at *
  generalize bs (itoa q) = q at *
  go_enter Tryz.func97, Tryz.ntmps97
  go_wp2_with fail
  have N := new2 w (.string n) (.string m) 55
  have G5 := (Gr.refl w).alloc (.cells #[.string n, .string m] 55)
  have S5 := hs.gr G5
  refine (M1.out _ (HE.out.gr G5) _ _ S5 N.1 N.2).mono ?_
  rintro e w4 ⟨rfl, hg4⟩
  have G6 : Gr w w4 := G5.trans hg4
  have S6 := S5.gr hg4
  clear S5 G5 hg4 N
  go_wp2_with fail
  have N := new2 w4 (.string p) (.string q) 55
  have G7 := G6.alloc (.cells #[.string p, .string q] 55)
  have S7 := S6.gr ((Gr.refl _).alloc (.cells #[.string p, .string q] 55))
  refine (M2.out _ (HE.out.gr G7) _ _ S7 N.1 N.2).mono ?_
  rintro e w5 ⟨rfl, hg5⟩
  go_wp2_with fail
  go_ret2
  exact ⟨rfl, G7.trans hg5⟩
set_option maxHeartbeats 1000000 in
set_option maxRecDepth 20000 in
theorem RDiv1_c (w : World) (he : Env w) (g : Nat) (hs : S0 w g) (n p m q : Int) (hn : n.natAbs < YtlmdpamehhcblaaGreatDoorD.Lim) (hp : p.natAbs < YtlmdpamehhcblaaGreatDoorD.Lim) (hm : m.natAbs < YtlmdpamehhcblaaGreatDoorD.Lim) (hq : q.natAbs < YtlmdpamehhcblaaGreatDoorD.Lim)
    (h1 : (n * q).natAbs < YtlmdpamehhcblaaGreatDoorD.Lim) (h2 : (p * m).natAbs < YtlmdpamehhcblaaGreatDoorD.Lim) :
    Calls Tryz.prog 169 #[.pointer (some ⟨g, 0, none⟩), .string (bs (itoa n)), .string (bs (itoa p)), .string (bs (itoa m)), .string (bs (itoa q))] w
      fun e w'' => e = .returned (.tuple #[.string (bs (itoa (n * q))), .string (bs (itoa (p * m)))]) ∧ Gr w w'' := by
  have M1 := Lib.hid (fun (w : World) (he : Env w) g h (hs : S0 w g) h0 h3 => hs.mul2 he (h := h) n q h0 h3 hn hq h1)
  have M2 := Lib.hid (fun (w : World) (he : Env w) g h (hs : S0 w g) h0 h3 => hs.mul2 he (h := h) p m h0 h3 hp hm h2)
  have HE := Lib.hid he
  clear hn hp hm hq h1 h2 he
  unfold RetT at M1 M2
  generalize bs (itoa (n * q)) = x at *
  generalize bs (itoa (p * m)) = y at *
  generalize bs (itoa n) = n at *
  generalize bs (itoa m) = m at *
  generalize bs (itoa p) = p at *
  generalize bs (itoa q) = q at *
  go_enter Tryz.func169, Tryz.ntmps169
  go_wp2_with fail
  have N := new2 w (.string n) (.string q) 55
  have G5 := (Gr.refl w).alloc (.cells #[.string n, .string q] 55)
  have S5 := hs.gr G5
  refine (M1.out _ (HE.out.gr G5) _ _ S5 N.1 N.2).mono ?_
  rintro e w4 ⟨rfl, hg4⟩
  have G6 : Gr w w4 := G5.trans hg4
  have S6 := S5.gr hg4
  clear S5 G5 hg4 N
  go_wp2_with fail
  have N := new2 w4 (.string p) (.string m) 55
  have G7 := G6.alloc (.cells #[.string p, .string m] 55)
  have S7 := S6.gr ((Gr.refl _).alloc (.cells #[.string p, .string m] 55))
  refine (M2.out _ (HE.out.gr G7) _ _ S7 N.1 N.2).mono ?_
  rintro e w5 ⟨rfl, hg5⟩
  go_wp2_with fail
  go_ret2
  exact ⟨rfl, G7.trans hg5⟩
set_option maxHeartbeats 1000000 in
theorem RMul_c (w : World) (he : Env w) (a b : Rat) (ha : Q a) (hb : Q b) :
    Calls Tryz.prog 35 #[.string (bs (rtext a)), .string (bs (rtext b))] w (RetRQ (a * b) w) := by
  have l1 : (a.num * b.num).natAbs < YtlmdpamehhcblaaGreatDoorD.Lim := by rw [YtlmdpamehhcblaaGreatDoorD.abs_mul]; exact YtlmdpamehhcblaaGreatDoorD.half_mul ha.n hb.n
  have l2 : a.den * b.den < YtlmdpamehhcblaaGreatDoorD.Lim := YtlmdpamehhcblaaGreatDoorD.half_mul ha.d hb.d
  have HM := Lib.hid (made_c w he _ ent97 a b ha hb (a.num * b.num) (a.den * b.den) l1 l2 (Nat.mul_ne_zero a.den_nz b.den_nz) (fun w' g he' hs => by
    have := RMul1_c w' he' g hs a.num a.den b.num b.den ha.ln ha.ld hb.ln hb.ld l1 (by show ((a.den * b.den : Nat) : Int).natAbs < _; exact l2)
    exact this))
  rw [← YtlmdpamehhcblaaGreatDoorD.mul_mk] at HM
  unfold RetRQ at HM ⊢
  clear l1 l2
  generalize bs (rtext (a * b)) = r at *
  generalize bs (rtext a) = sa at *
  generalize bs (rtext b) = sb at *
  go_enter Tryz.func35, Tryz.ntmps35
  go_wp2_with fail
  refine HM.out.mono ?_
  rintro e w1 ⟨rfl, hg1⟩
  go_wp2_with fail
  go_ret2
  exact ⟨rfl, hg1⟩
theorem rtext_no0 {b : Rat} (h : b ≠ 0) : ((bs (rtext b)).toList == [48]) = false := by
  rw [bs_toList, beq_eq_false_iff_ne]
  intro e
  have h2 : itoa 0 = [48] := by decide +kernel
  rw [← h2, ← YtlmdpamehhcblaaGreatDoorD.rtext_ofInt] at e
  exact h (YtlmdpamehhcblaaGreatDoorD.rtext_inj e)
set_option maxHeartbeats 1000000 in
/-- The quotient by a positive number. -/
theorem RDiv_c (w : World) (he : Env w) (a b : Rat) (ha : Q a) (hb : Q b) (h0 : 0 < b.num) :
    Calls Tryz.prog 89 #[.string (bs (rtext a)), .string (bs (rtext b))] w (RetRQ (mkRat (a.num * b.den) (a.den * b.num.natAbs)) w) := by
  have l1 : (a.num * (b.den : Int)).natAbs < YtlmdpamehhcblaaGreatDoorD.Lim := by rw [YtlmdpamehhcblaaGreatDoorD.abs_mul]; exact YtlmdpamehhcblaaGreatDoorD.half_mul ha.n hb.d
  have l2 : a.den * b.num.natAbs < YtlmdpamehhcblaaGreatDoorD.Lim := YtlmdpamehhcblaaGreatDoorD.half_mul ha.d hb.n
  have e2 : ((a.den : Int) * b.num) = ((a.den * b.num.natAbs : Nat) : Int) := by rw [Int.natCast_mul]; rw [show ((b.num.natAbs : Nat) : Int) = b.num by omega]
  have HM := Lib.hid (fun w he => made_c w he _ ent169 a b ha hb (a.num * b.den) (a.den * b.num.natAbs) l1 l2 (Nat.mul_ne_zero a.den_nz (by omega)) (fun w' g he' hs => by
    have := RDiv1_c w' he' g hs a.num a.den b.num b.den ha.ln ha.ld hb.ln hb.ld l1 (by rw [e2]; exact l2)
    rw [e2] at this
    exact this))
  have HK := Lib.hid (fun w he g h0 h1 => checks2_c w he g a b h0 h1 ha hb)
  have hz := rtext_no0 (b := b) (by intro e; rw [e] at h0; exact absurd h0 (by decide))
  have HE := Lib.hid he
  clear l1 l2 e2 h0 ha hb he
  unfold RetRQ at HM ⊢
  unfold RetE at HK
  generalize bs (rtext (mkRat (a.num * b.den) (a.den * b.num.natAbs))) = r at *
  generalize bs (rtext a) = sa at *
  generalize bs (rtext b) = sb at *
  go_enter Tryz.func89, Tryz.ntmps89
  go_wp2_with fail
  have N := new2 w (.string sa) (.string sb) 23
  refine (HK.out _ (HE.out.gr ((Gr.refl w).alloc _)) _ N.1 N.2).mono ?_
  rintro e w1 ⟨rfl, hg1⟩
  have G1 : Gr w w1 := ((Gr.refl w).alloc _).trans hg1
  clear hg1 N
  go_wp2_with fail
  refine (HM.out _ (HE.out.gr G1)).mono ?_
  rintro e w2 ⟨rfl, hg2⟩
  go_wp2_with fail
  go_ret2
  exact ⟨rfl, G1.trans hg2⟩
end Go.Proofs.YtlmdpamehhcblaaGreatDoor
