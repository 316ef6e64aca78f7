import Derived.Test.YtlmdpamehhcblaaGreatDoorRc
/- Contracts of package ratio: Of, Whole, Parts, Compare, made. -/
namespace Go.Proofs.YtlmdpamehhcblaaGreatDoor
open Go.RowKit
open Go.Lib (itoa decDigits)
open YtlmdpamehhcblaaGreatDoorD (rtext rjoin cutc canon Q)

theorem lim_int {n : Int} (h0 : -9223372036854775808 ≤ n) (h1 : n ≤ 9223372036854775807) : n.natAbs < 10 ^ 19 := by
  have : (10 : Nat) ^ 19 = 10000000000000000000 := by decide
  omega
theorem lim19 {n : Nat} (h : n < 10 ^ 19) : n < YtlmdpamehhcblaaGreatDoorD.Lim := Nat.lt_of_lt_of_le h (YtlmdpamehhcblaaGreatDoorD.lim_le (by decide))
set_option maxHeartbeats 1000000 in
theorem ROf_c (w : World) (he : Env w) (n : Int) (d : Nat) (n0 : -9223372036854775808 ≤ n) (n1 : n ≤ 9223372036854775807) (d1 : d ≤ 9223372036854775807) (h0 : d ≠ 0) :
    Calls Tryz.prog 77 #[.int .i64 n, .int .i64 (d : Int)] w (RetRQ (mkRat n d) w) := by
  have H1 := Lib.hid (fun w he => Of_c w he n n0 n1)
  have H2 := Lib.hid (fun w he => Of_c w he (d : Int) (by omega) (by omega))
  have H3 := Lib.hid (fun w he => Make_c w he n d (lim19 (lim_int n0 n1)) (lim19 (by have := lim_int (n := (d : Int)) (by omega) (by omega); omega)) h0)
  have HE := Lib.hid he
  clear h0 he
  unfold RetRQ at H3 ⊢
  generalize bs (rtext (mkRat n d)) = r at *
  generalize bs (itoa n) = sn at *
  generalize bs (itoa (d : Int)) = sd at *
  go_enter Tryz.func77, Tryz.ntmps77
  go_wp2_with fail
  refine (H1.out _ HE.out).mono ?_
  rintro e w1 ⟨rfl, hg1⟩
  go_wp2_with fail
  refine (H2.out _ (HE.out.gr hg1)).mono ?_
  rintro e w2 ⟨rfl, hg2⟩
  go_wp2_with fail
  refine (H3.out _ ((HE.out.gr hg1).gr hg2)).mono ?_
  rintro e w3 ⟨rfl, hg3⟩
  go_wp2_with fail
  go_ret2
  exact ⟨rfl, (hg1.trans hg2).trans hg3⟩
set_option maxHeartbeats 1000000 in
theorem RWhole_c (w : World) (he : Env w) (n : Int) (n0 : -9223372036854775808 ≤ n) (n1 : n ≤ 9223372036854775807) :
    Calls Tryz.prog 36 #[.int .i64 n] w (RetR n w) := by
  have H1 := Lib.hid (Of_c w he n n0 n1)
  unfold RetR
  rw [YtlmdpamehhcblaaGreatDoorD.rtext_ofInt]
  generalize bs (itoa n) = sn at *
  go_enter Tryz.func36, Tryz.ntmps36
  go_wp2_with fail
  refine H1.out.mono ?_
  rintro e w1 ⟨rfl, hg1⟩
  go_wp2_with fail
  go_ret
  exact ⟨rfl, hg1⟩
/-- What ratio.Parts answers to a text that is no number's. -/
def RetBad2 (n : Int) (w : World) (e : Ending) (w' : World) : Prop := e = .returned (.tuple #[.string (bs []), .string (bs []), .int .i64 n]) ∧ Gr w w'
set_option maxHeartbeats 1000000 in
theorem Parts_bad (w : World) (he : Env w) (l : List UInt8) (hl : l.length < 4294967281) (hb : rchk l ≠ 0) : Calls Tryz.prog 135 #[.string (bs l)] w (RetBad2 (rchk l) w) := by
  have H1 := Lib.hid (RCheck_c w he l hl)
  unfold RetE at H1
  unfold RetBad2
  generalize rchk l = c at *
  generalize bs l = s at *
  go_enter Tryz.func135, Tryz.ntmps135
  go_wp2_with fail
  refine H1.out.mono ?_
  rintro e w1 ⟨rfl, hg1⟩
  go_wp2_with fail
  go_ret3
  exact ⟨rfl, hg1⟩
set_option maxHeartbeats 1000000 in
theorem Parts_c (w : World) (he : Env w) (q : Rat) (hq : Q q) : Calls Tryz.prog 135 #[.string (bs (rtext q))] w fun e w' => e = .returned (.tuple #[.string (bs (itoa q.num)), .string (bs (itoa (q.den : Int))), .int .i64 0]) ∧ Gr w w' := by
  have H1 := Lib.hid (fun w he => Checkq_c w he q hq)
  have H2 := Lib.hid (fun w he => cutq_c w he q hq)
  have HE := Lib.hid he
  clear he hq
  unfold RetE at H1
  generalize bs (rtext q) = s at *
  generalize bs (itoa q.num) = sn at *
  generalize bs (itoa (q.den : Int)) = sd at *
  go_enter Tryz.func135, Tryz.ntmps135
  go_wp2_with fail
  refine (H1.out _ HE.out).mono ?_
  rintro e w1 ⟨rfl, hg1⟩
  go_wp2_with fail
  obtain ⟨b, H⟩ := H2.out _ (HE.out.gr hg1)
  refine H.mono ?_
  rintro e w2 ⟨rfl, hg2⟩
  go_wp2_with fail
  go_ret3
  exact ⟨rfl, hg1.trans hg2⟩
theorem S0.mul2 {w : World} (he : Env w) {g h : Nat} (hs : S0 w g) (a b : Int) (h0 : w.cell? ⟨h, 0, none⟩ = some (.string (bs (itoa a)))) (h1 : w.cell? ⟨h, 1, none⟩ = some (.string (bs (itoa b))))
    (ha : a.natAbs < YtlmdpamehhcblaaGreatDoorD.Lim) (hb : b.natAbs < YtlmdpamehhcblaaGreatDoorD.Lim) (hp : (a * b).natAbs < YtlmdpamehhcblaaGreatDoorD.Lim) :
    Calls Tryz.prog 98 #[.pointer (some ⟨g, 0, none⟩), .slice (some ⟨h, 0, none⟩) 2 2] w (RetT (a * b) w) := by
  have e : ip [a, b] = a * b := by unfold ip; simp
  rw [← e]
  refine mul_c w he g h 2 hs [a, b] (fun j hj => by
    match j, hj with
    | 0, _ => exact h0
    | 1, _ => exact h1) (by simp) (fun x hx => by
    simp only [List.mem_cons, List.not_mem_nil, or_false] at hx
    rcases hx with rfl | rfl
    · exact ha
    · exact hb) (fun j => ?_)
  match j with
  | 0 => exact YtlmdpamehhcblaaGreatDoorD.one_lim
  | 1 => unfold ip; simpa using ha
  | j + 2 => rw [show ip (List.take (j + 2) [a, b]) = a * b by unfold ip; simp]; exact hp
theorem alloc_size (w : World) (o : Obj) : (w.alloc o).heap.size = w.heap.size + 1 := by unfold World.alloc; simp
set_option maxHeartbeats 1000000 in
set_option maxRecDepth 20000 in
theorem RCompare_c (w : World) (he : Env w) (a b : Rat) (ha : Q a) (hb : Q b) :
    Calls Tryz.prog 37 #[.string (bs (rtext a)), .string (bs (rtext b))] w (RetN (a.num * b.den - b.num * a.den).sign w) := by
  have HK := Lib.hid (fun w he g h0 h1 => checks2_c w he g a b h0 h1 ha hb)
  have H1 := Lib.hid (fun w he => cutq_c w he a ha)
  have H2 := Lib.hid (fun w he => cutq_c w he b hb)
  have l1 : (a.num * (b.den : Int)).natAbs < YtlmdpamehhcblaaGreatDoorD.Lim := by rw [YtlmdpamehhcblaaGreatDoorD.abs_mul]; exact YtlmdpamehhcblaaGreatDoorD.half_mul ha.n hb.d
  have l2 : (b.num * (a.den : Int)).natAbs < YtlmdpamehhcblaaGreatDoorD.Lim := by rw [YtlmdpamehhcblaaGreatDoorD.abs_mul]; exact YtlmdpamehhcblaaGreatDoorD.half_mul hb.n ha.d
  have M1 := Lib.hid (fun (w : World) (he : Env w) g h (hs : S0 w g) h0 h1 => hs.mul2 he (h := h) a.num (b.den : Int) h0 h1 ha.ln hb.ld l1)
  have M2 := Lib.hid (fun (w : World) (he : Env w) g h (hs : S0 w g) h0 h1 => hs.mul2 he (h := h) b.num (a.den : Int) h0 h1 hb.ln ha.ld l2)
  have HO := Lib.hid (fun w => WCompare_c w _ _ l1 l2)
  have HE := Lib.hid he
  have bd := sign_bd (a.num * (b.den : Int) - b.num * (a.den : Int))
  clear he ha hb l1 l2
  unfold RetE at HK
  unfold RetT at M1 M2
  unfold RetN at HO ⊢
  generalize (a.num * (b.den : Int) - b.num * (a.den : Int)).sign = sg at *
  generalize bs (itoa (a.num * (b.den : Int))) = x at *
  generalize bs (itoa (b.num * (a.den : Int))) = y at *
  generalize bs (itoa a.num) = an at *
  generalize bs (itoa b.num) = bn at *
  generalize bs (itoa (a.den : Int)) = ad at *
  generalize bs (itoa (b.den : Int)) = bd' at *
  generalize bs (rtext a) = sa at *
  generalize bs (rtext b) = sb at *
  go_enter Tryz.func37, Tryz.ntmps37
  go_wp2_with fail
  have N := new2 w (.string sa) (.string sb) 23
  refine (HK.out _ (HE.out.gr ((Gr.refl w).alloc _)) _ N.1 N.2).mono ?_
  rintro e w1 ⟨rfl, hg1⟩
  have G1 : Gr w w1 := ((Gr.refl w).alloc _).trans hg1
  clear hg1 N
  go_wp2_with fail
  obtain ⟨b1, C1⟩ := H1.out _ (HE.out.gr G1)
  refine C1.mono ?_
  rintro e w2 ⟨rfl, hg2⟩
  have G2 : Gr w w2 := G1.trans hg2
  clear hg2 C1 G1
  go_wp2_with fail
  obtain ⟨b2, C2⟩ := H2.out _ (HE.out.gr G2)
  refine C2.mono ?_
  rintro e w3 ⟨rfl, hg3⟩
  have G3 : Gr w w3 := G2.trans hg3
  clear hg3 C2 G2
  go_wp2_with fail
  have S := S0.new w3
  have G4 := G3.alloc (.cells #[.int .i64 0] 126 (0, 0))
  have N := new2 (w3.alloc (.cells #[.int .i64 0] 126 (0, 0))) (.string an) (.string bd') 55
  rw [alloc_size] at N
  have G5 := G4.alloc (.cells #[.string an, .string bd'] 55)
  have S5 := S.gr ((Gr.refl _).alloc (.cells #[.string an, .string bd'] 55))
  refine (M1.out _ (HE.out.gr G5) _ _ S5 N.1 N.2).mono ?_
  rintro e w4 ⟨rfl, hg4⟩
  have G6 : Gr w w4 := G5.trans hg4
  have S6 := S5.gr hg4
  clear S S5 G3 G4 G5 hg4 N
  go_wp2_with fail
  have N := new2 w4 (.string bn) (.string ad) 55
  have G7 := G6.alloc (.cells #[.string bn, .string ad] 55)
  have S7 := S6.gr ((Gr.refl _).alloc (.cells #[.string bn, .string ad] 55))
  refine (M2.out _ (HE.out.gr G7) _ _ S7 N.1 N.2).mono ?_
  rintro e w5 ⟨rfl, hg5⟩
  have G8 : Gr w w5 := G7.trans hg5
  have c8 := (S7.gr hg5).cell
  clear S6 S7 G6 G7 hg5 N
  go_wp2_with fail
  refine (HO.out _).mono ?_
  rintro e w6 ⟨rfl, hg6⟩
  go_wp2_with fail
  go_ret2
  exact ⟨rfl, G8.trans hg6⟩
end Go.Proofs.YtlmdpamehhcblaaGreatDoor
