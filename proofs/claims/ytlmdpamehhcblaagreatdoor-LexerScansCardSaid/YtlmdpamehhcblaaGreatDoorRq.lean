import Derived.Test.YtlmdpamehhcblaaGreatDoorRp
/- Contracts of package ratio: made, Mul, Div. -/
namespace Go.Proofs.YtlmdpamehhcblaaGreatDoor
open Go.RowKit
open Go.Lib (itoa decDigits)
open YtlmdpamehhcblaaGreatDoorD (rtext rjoin cutc canon Q)

theorem no0 {d : Int} (h : d ≠ 0) : ((bs (itoa d)).toList == [48]) = false := by
  rw [bs_toList, beq_eq_false_iff_ne]
  intro e
  have h2 : itoa 0 = [48] := by decide +kernel
  rw [← h2] at e
  exact h (YtlmdpamehhcblaaGreatDoorD.itoa_inj e)
set_option maxHeartbeats 1000000 in
set_option maxRecDepth 20000 in
theorem made_c (w : World) (he : Env w) (k : Nat) (hk : Ent k) (a b : Rat) (ha : Q a) (hb : Q b) (n : Int) (d : Nat) (hn : n.natAbs < YtlmdpamehhcblaaGreatDoorD.Lim) (hd : d < YtlmdpamehhcblaaGreatDoorD.Lim) (h0 : d ≠ 0)
    (ho : ∀ w' g, Env w' → S0 w' g → Calls Tryz.prog k #[.pointer (some ⟨g, 0, none⟩), .string (bs (itoa a.num)), .string (bs (itoa (a.den : Int))), .string (bs (itoa b.num)), .string (bs (itoa (b.den : Int)))] w'
      fun e w'' => e = .returned (.tuple #[.string (bs (itoa n)), .string (bs (itoa (d : Int)))]) ∧ Gr w' w'') :
    Calls Tryz.prog 96 #[.string (bs (rtext a)), .string (bs (rtext b)), .func (.func k) #[] #[]] w (RetRQ (mkRat n d) w) := by
  have HK := Lib.hid (fun w he g h0 h1 => checks2_c w he g a b h0 h1 ha hb)
  have H1 := Lib.hid (fun w he => cutq_c w he a ha)
  have H2 := Lib.hid (fun w he => cutq_c w he b hb)
  have HO := Lib.hid ho
  have HLo := Lib.hid (fun w he g hs => lowest_c w he g hs n d hn hd h0)
  have hz := no0 (d := (d : Int)) (by omega)
  have HE := Lib.hid he
  clear he ha hb hn hd h0 ho
  unfold RetE at HK
  unfold RetR at HLo
  unfold RetRQ
  generalize bs (rtext (mkRat n d)) = r at *
  generalize bs (itoa n) = x at *
  generalize bs (itoa (d : Int)) = y at *
  generalize bs (itoa a.num) = an at *
  generalize bs (itoa b.num) = bn at *
  generalize bs (itoa (a.den : Int)) = ad at *
  generalize bs (itoa (b.den : Int)) = bd' at *
  generalize bs (rtext a) = sa at *
  generalize bs (rtext b) = sb at *
  go_enter Tryz.func96, Tryz.ntmps96
  go_wp2_with fail
  have N := new2 w (.string sa) (.string sb) 23
  refine (HK.out _ (HE.out.gr ((Gr.refl w).alloc _)) _ N.1 N.2).mono ?_
  rintro e w1 ⟨rfl, hg1⟩
  have G1 : Gr w w1 := ((Gr.refl w).alloc _).trans hg1
  clear hg1 N
  go_wp2_with fail
  obtain ⟨b1, C1⟩ := H1.out _ (HE.out.gr G1)
  refine C1.mono ?_
  rintro e w2 ⟨rfl, hg2⟩
  have G2 : Gr w w2 := G1.trans hg2
  clear hg2 C1 G1
  go_wp2_with fail
  obtain ⟨b2, C2⟩ := H2.out _ (HE.out.gr G2)
  refine C2.mono ?_
  rintro e w3 ⟨rfl, hg3⟩
  have G3 : Gr w w3 := G2.trans hg3
  clear hg3 C2 G2
  go_wp2_with fail
  rw [hk]
  go_wp2_with fail
  have S := S0.new w3
  have G4 := G3.alloc (.cells #[.int .i64 0] 126 (0, 0))
  refine (HO.out _ _ (HE.out.gr G4) S).mono ?_
  rintro e w4 ⟨rfl, hg4⟩
  have G6 : Gr w w4 := G4.trans hg4
  have S6 := S.gr hg4
  have c6 := S6.cell
  clear S G3 G4 hg4
  go_wp2_with fail
  refine (HLo.out _ (HE.out.gr G6) _ S6).mono ?_
  rintro e w5 ⟨rfl, hg5⟩
  have G7 : Gr w w5 := G6.trans hg5
  have c8 := (S6.gr hg5).cell
  clear c6 S6 G6 hg5
  go_wp2_with fail
  go_quiet (fail)
  go_wp2_with fail
  go_ret2
  exact ⟨rfl, G7.drewN _⟩
theorem ent97 : Ent 97 := ent_of Tryz.func97 rfl rfl
theorem ent169 : Ent 169 := ent_of Tryz.func169 rfl rfl
theorem ent171 : Ent 171 := ent_of Tryz.func171 rfl rfl
set_option maxHeartbeats 1000000 in
set_option maxRecDepth 20000 in
theorem RMul1_c (w : World) (he : Env w) (g : Nat) (hs : S0 w g) (n p m q : Int) (hn : n.natAbs < YtlmdpamehhcblaaGreatDoorD.Lim) (hp : p.natAbs < YtlmdpamehhcblaaGreatDoorD.Lim) (hm : m.natAbs < YtlmdpamehhcblaaGreatDoorD.Lim) (hq : q.natAbs < YtlmdpamehhcblaaGreatDoorD.Lim)
    (h1 : (n * m).natAbs < YtlmdpamehhcblaaGreatDoorD.Lim) (h2 : (p * q).natAbs < YtlmdpamehhcblaaGreatDoorD.Lim) :
    Calls Tryz.prog 97 #[.pointer (some ⟨g, 0, none⟩), .string (bs (itoa n)), .string (bs (itoa p)), .string (bs (itoa m)), .string (bs (itoa q))] w
      fun e w'' => e = .returned (.tuple #[.string (bs (itoa (n * m))), .string (bs (itoa (p * q)))]) ∧ Gr w w'' := by
  have M1 := Lib.hid (fun (w : World) (he : Env w) g h (hs : S0 w g) h0 h3 => hs.mul2 he (h := h) n m h0 h3 hn hm h1)
  have M2 := Lib.hid (fun (w : World) (he : Env w) g h (hs : S0 w g) h0 h3 => hs.mul2 he (h := h) p q h0 h3 hp hq h2)
  have HE := Lib.hid he
  clear hn hp hm hq h1 h2 he
  unfold RetT at M1 M2
  generalize bs (itoa (n * m)) = x at *
  generalize bs (itoa (p * q)) = y at *
  generalize bs (itoa n) = n at *
  generalize bs (itoa m) = m at *
  generalize bs (itoa p) = p at *
  generalize bs (itoa q) = q at *
  go_enter Tryz.func97, Tryz.ntmps97
  go_wp2_with fail
  have N := new2 w (.string n) (.string m) 55
  have G5 := (Gr.refl w).alloc (.cells #[.string n, .string m] 55)
  have S5 := hs.gr G5
  refine (M1.out _ (HE.out.gr G5) _ _ S5 N.1 N.2).mono ?_
  rintro e w4 ⟨rfl, hg4⟩
  have G6 : Gr w w4 := G5.trans hg4
  have S6 := S5.gr hg4
  clear S5 G5 hg4 N
  go_wp2_with fail
  have N := new2 w4 (.string p) (.string q) 55
  have G7 := G6.alloc (.cells #[.string p, .string q] 55)
  have S7 := S6.gr ((Gr.refl _).alloc (.cells #[.string p, .string q] 55))
  refine (M2.out _ (HE.out.gr G7) _ _ S7 N.1 N.2).mono ?_
  rintro e w5 ⟨rfl, hg5⟩
  go_wp2_with fail
  go_ret2
  exact ⟨rfl, G7.trans hg5⟩
set_option maxHeartbeats 1000000 in
set_option maxRecDepth 20000 in
theorem RDiv1_c (w : World) (he : Env w) (g : Nat) (hs : S0 w g) (n p m q : Int) (hn : n.natAbs < YtlmdpamehhcblaaGreatDoorD.Lim) (hp : p.natAbs < YtlmdpamehhcblaaGreatDoorD.Lim) (hm : m.natAbs < YtlmdpamehhcblaaGreatDoorD.Lim) (hq : q.natAbs < YtlmdpamehhcblaaGreatDoorD.Lim)
    (h1 : (n * q).natAbs < YtlmdpamehhcblaaGreatDoorD.Lim) (h2 : (p * m).natAbs < YtlmdpamehhcblaaGreatDoorD.Lim) :
    Calls Tryz.prog 169 #[.pointer (some ⟨g, 0, none⟩), .string (bs (itoa n)), .string (bs (itoa p)), .string (bs (itoa m)), .string (bs (itoa q))] w
      fun e w'' => e = .returned (.tuple #[.string (bs (itoa (n * q))), .string (bs (itoa (p * m)))]) ∧ Gr w w'' := by
  have M1 := Lib.hid (fun (w : World) (he : Env w) g h (hs : S0 w g) h0 h3 => hs.mul2 he (h := h) n q h0 h3 hn hq h1)
  have M2 := Lib.hid (fun (w : World) (he : Env w) g h (hs : S0 w g) h0 h3 => hs.mul2 he (h := h) p m h0 h3 hp hm h2)
  have HE := Lib.hid he
  clear hn hp hm hq h1 h2 he
  unfold RetT at M1 M2
  generalize bs (itoa (n * q)) = x at *
  generalize bs (itoa (p * m)) = y at *
  generalize bs (itoa n) = n at *
  generalize bs (itoa m) = m at *
  generalize bs (itoa p) = p at *
  generalize bs (itoa q) = q at *
  go_enter Tryz.func169, Tryz.ntmps169
  go_wp2_with fail
  have N := new2 w (.string n) (.string q) 55
  have G5 := (Gr.refl w).alloc (.cells #[.string n, .string q] 55)
  have S5 := hs.gr G5
  refine (M1.out _ (HE.out.gr G5) _ _ S5 N.1 N.2).mono ?_
  rintro e w4 ⟨rfl, hg4⟩
  have G6 : Gr w w4 := G5.trans hg4
  have S6 := S5.gr hg4
  clear S5 G5 hg4 N
  go_wp2_with fail
  have N := new2 w4 (.string p) (.string m) 55
  have G7 := G6.alloc (.cells #[.string p, .string m] 55)
  have S7 := S6.gr ((Gr.refl _).alloc (.cells #[.string p, .string m] 55))
  refine (M2.out _ (HE.out.gr G7) _ _ S7 N.1 N.2).mono ?_
  rintro e w5 ⟨rfl, hg5⟩
  go_wp2_with fail
  go_ret2
  exact ⟨rfl, G7.trans hg5⟩
set_option maxHeartbeats 1000000 in
theorem RMul_c (w : World) (he : Env w) (a b : Rat) (ha : Q a) (hb : Q b) :
    Calls Tryz.prog 35 #[.string (bs (rtext a)), .string (bs (rtext b))] w (RetRQ (a * b) w) := by
  have l1 : (a.num * b.num).natAbs < YtlmdpamehhcblaaGreatDoorD.Lim := by rw [YtlmdpamehhcblaaGreatDoorD.abs_mul]; exact YtlmdpamehhcblaaGreatDoorD.half_mul ha.n hb.n
  have l2 : a.den * b.den < YtlmdpamehhcblaaGreatDoorD.Lim := YtlmdpamehhcblaaGreatDoorD.half_mul ha.d hb.d
  have HM := Lib.hid (made_c w he _ ent97 a b ha hb (a.num * b.num) (a.den * b.den) l1 l2 (Nat.mul_ne_zero a.den_nz b.den_nz) (fun w' g he' hs => by
    have := RMul1_c w' he' g hs a.num a.den b.num b.den ha.ln ha.ld hb.ln hb.ld l1 (by show ((a.den * b.den : Nat) : Int).natAbs < _; exact l2)
    exact this))
  rw [← YtlmdpamehhcblaaGreatDoorD.mul_mk] at HM
  unfold RetRQ at HM ⊢
  clear l1 l2
  generalize bs (rtext (a * b)) = r at *
  generalize bs (rtext a) = sa at *
  generalize bs (rtext b) = sb at *
  go_enter Tryz.func35, Tryz.ntmps35
  go_wp2_with fail
  refine HM.out.mono ?_
  rintro e w1 ⟨rfl, hg1⟩
  go_wp2_with fail
  go_ret2
  exact ⟨rfl, hg1⟩
theorem rtext_no0 {b : Rat} (h : b ≠ 0) : ((bs (rtext b)).toList == [48]) = false := by
  rw [bs_toList, beq_eq_false_iff_ne]
  intro e
  have h2 : itoa 0 = [48] := by decide +kernel
  rw [← h2, ← YtlmdpamehhcblaaGreatDoorD.rtext_ofInt] at e
  exact h (YtlmdpamehhcblaaGreatDoorD.rtext_inj e)
set_option maxHeartbeats 1000000 in
/-- The quotient by a positive number. -/
theorem RDiv_c (w : World) (he : Env w) (a b : Rat) (ha : Q a) (hb : Q b) (h0 : 0 < b.num) :
    Calls Tryz.prog 89 #[.string (bs (rtext a)), .string (bs (rtext b))] w (RetRQ (mkRat (a.num * b.den) (a.den * b.num.natAbs)) w) := by
  have l1 : (a.num * (b.den : Int)).natAbs < YtlmdpamehhcblaaGreatDoorD.Lim := by rw [YtlmdpamehhcblaaGreatDoorD.abs_mul]; exact YtlmdpamehhcblaaGreatDoorD.half_mul ha.n hb.d
  have l2 : a.den * b.num.natAbs < YtlmdpamehhcblaaGreatDoorD.Lim := YtlmdpamehhcblaaGreatDoorD.half_mul ha.d hb.n
  have e2 : ((a.den : Int) * b.num) = ((a.den * b.num.natAbs : Nat) : Int) := by rw [Int.natCast_mul]; rw [show ((b.num.natAbs : Nat) : Int) = b.num by omega]
  have HM := Lib.hid (fun w he => made_c w he _ ent169 a b ha hb (a.num * b.den) (a.den * b.num.natAbs) l1 l2 (Nat.mul_ne_zero a.den_nz (by omega)) (fun w' g he' hs => by
    have := RDiv1_c w' he' g hs a.num a.den b.num b.den ha.ln ha.ld hb.ln hb.ld l1 (by rw [e2]; exact l2)
    rw [e2] at this
    exact this))
  have HK := Lib.hid (fun w he g h0 h1 => checks2_c w he g a b h0 h1 ha hb)
  have hz := rtext_no0 (b := b) (by intro e; rw [e] at h0; exact absurd h0 (by decide))
  have HE := Lib.hid he
  clear l1 l2 e2 h0 ha hb he
  unfold RetRQ at HM ⊢
  unfold RetE at HK
  generalize bs (rtext (mkRat (a.num * b.den) (a.den * b.num.natAbs))) = r at *
  generalize bs (rtext a) = sa at *
  generalize bs (rtext b) = sb at *
  go_enter Tryz.func89, Tryz.ntmps89
  go_wp2_with fail
  have N := new2 w (.string sa) (.string sb) 23
  refine (HK.out _ (HE.out.gr ((Gr.refl w).alloc _)) _ N.1 N.2).mono ?_
  rintro e w1 ⟨rfl, hg1⟩
  have G1 : Gr w w1 := ((Gr.refl w).alloc _).trans hg1
  clear hg1 N
  go_wp2_with fail
  refine (HM.out _ (HE.out.gr G1)).mono ?_
  rintro e w2 ⟨rfl, hg2⟩
  go_wp2_with fail
  go_ret2
  exact ⟨rfl, G1.trans hg2⟩
end Go.Proofs.YtlmdpamehhcblaaGreatDoor
/- Contracts of package whole: plus. -/
namespace Go.Proofs.YtlmdpamehhcblaaGreatDoor
open Go.RowKit
open Go.Lib (itoa decDigits)
open YtlmdpamehhcblaaGreatDoorV (wd nw B upd B_eq)

/-- A wide with the sum of two integers; of what was there, it alone may have turned. -/
def Plus (g : Nat) (s : Int) (w : World) (e : Ending) (w' : World) : Prop := e = .returned (.tuple #[]) ∧ (∃ l v, IsW w' g l v ∧ wint l v = s) ∧ Fr g w w'
theorem wcells_one (l : Bool) (n : Int) (f : Nat → Int) : ∀ v ∈ (wcells l n f).toList, v.oneCell' = true := by
  intro v hv
  rw [wcells_toList] at hv
  simp only [List.mem_cons, List.mem_map] at hv
  rcases hv with rfl | rfl | ⟨j, _, rfl⟩ <;> rfl
theorem store_wide {w : World} {g : Nat} {l l' : Bool} {n n' : Int} {f f' : Nat → Int} (h : WB w g l n f) :
    (storeCells ⟨g, 0, none⟩ (wcells l' n' f').toList).run Tryz.prog w = .ok () (w.setRow g (wcells l' n' f')) := by
  have := run_storeCells_from (P := Tryz.prog) g 136 (wcells l' n' f').toList 0 (wcells l n f) w h (by simp [wcells_size]) (wcells_one l' n' f')
  simpa [wcells_size] using this
theorem WB.row {w : World} {g : Nat} {l l' : Bool} {n n' : Int} {f f' : Nat → Int} (h : WB w g l n f) : WB (w.setRow g (wcells l' n' f')) g l' n' f' := setRow_heap w g _ _ 136 _ h
theorem Fr.row {a w : World} {g : Nat} (h : Fr g a w) (cs : Array Value) : Fr g a (w.setRow g cs) :=
  h.trans ⟨rfl, rfl, rfl, by simp [World.setRow], fun k _ hk => by
    simp only [World.setRow, Array.getElem?_modify]
    rw [if_neg (fun e => hk e.symm)]⟩
set_option maxHeartbeats 1000000 in
set_option maxRecDepth 100000 in
theorem plus_c (w : World) (gx gy : Nat) (lx ly : Bool) (X Y : Nat) (hx : IsW w gx lx X) (hy : IsW w gy ly Y) (hne : gy ≠ gx) (hV : X + Y < B ^ 232) :
    Calls Tryz.prog 190 #[.pointer (some ⟨gx, 0, none⟩), .pointer (some ⟨gy, 0, none⟩)] w (Plus gx (wint lx X + wint ly Y) w) := by
  have c0 := hx.1.c0
  have d0 := hy.1.c0
  have HB := Lib.hid (fun w hx hy => beyond_c w gx gy lx ly X Y hx hy)
  have Hx := Lib.hid hx; have Hy := Lib.hid hy
  have HV := Lib.hid hV
  have hb := hy.bd
  clear hx hy hV
  by_cases hl : lx = ly
  · subst hl
    have HC := Lib.hid (fun w hx hy => carry_loop w gx gy lx lx X Y 1 0 (X + Y) hx hy hne (by omega) (by decide) (by decide) (by simp) HV.out)
    clear hb
    go_enter Tryz.func190, Tryz.ntmps190
    go_wp2_with fail
    go_quiet (fail)
    go_wp2_with fail
    refine (HC.out _ (Hx.out.drewN _) (Hy.out.drewN _)).mono ?_
    rintro e w1 ⟨rfl, hi, hf⟩
    go_wp2_with fail
    go_end0
    exact ⟨rfl, ⟨lx, X + Y, hi, by unfold wint; split <;> omega⟩, ((Fr.refl _ _).drewN _).trans hf⟩
  · have h2 : (lx == ly) = false := by cases lx <;> cases ly <;> simp_all
    by_cases hle : Y ≤ X
    · have HC := Lib.hid (fun w hx hy => carry_loop w gx gy lx ly X Y (-1) 0 (X - Y) hx hy hne (by omega) (by decide) (by decide) (by simp; omega) (by have := HV.out; omega))
      clear hb
      go_enter Tryz.func190, Tryz.ntmps190
      go_wp2_with fail
      go_quiet (fail)
      go_wp2_with fail
      refine (HB.out _ (Hx.out.drewN _) (Hy.out.drewN _)).mono ?_
      rintro e w1 ⟨b, rfl, hc, hg⟩
      have hb0 : 0 ≤ b := by have := hc.1; omega
      clear hc
      go_wp2_with fail
      refine (HC.out _ ((Hx.out.drewN _).grow hg) ((Hy.out.drewN _).grow hg)).mono ?_
      rintro e w2 ⟨rfl, hi, hf⟩
      go_wp2_with fail
      go_end0
      refine ⟨rfl, ⟨lx, X - Y, hi, ?_⟩, (((Fr.refl _ _).drewN _).trans (Fr.of hg)).trans hf⟩
      unfold wint
      cases lx <;> cases ly <;> first | (exact absurd rfl hl) | (simp; omega)
    · go_enter Tryz.func190, Tryz.ntmps190
      go_wp2_with fail
      go_quiet (fail)
      go_wp2_with fail
      refine (HB.out _ (Hx.out.drewN _) (Hy.out.drewN _)).mono ?_
      rintro e w1 ⟨b, rfl, hc, hg⟩
      have hb0 : b < 0 := by have := hc.1; omega
      clear hc
      go_wp2_with fail
      have hyw : WB w1 gy ly (nw Y) (fun j => (wd Y j : Int)) := ((Hy.out.drewN _).grow hg).1
      have hxw : WB w1 gx lx (nw X) (fun j => (wd X j : Int)) := ((Hx.out.drewN _).grow hg).1
      refine wp_load_row 136 _ rfl gy rfl 136 _ _ _ hyw Tryz.underlying136 rfl (by kernel_rfl) ?_
      go_wp2_with fail
      have hz := WB.new' w1
      have hx2 := hxw.alloc (.cells Tryz.zeroCells136 136)
      have hgz : gx ≠ w1.heap.size := Nat.ne_of_lt hxw.lt
      have hsz : w.heap.size ≤ w1.heap.size := hg.size
      have G1 : Gr w (w1.alloc (.cells Tryz.zeroCells136 136)) := (((Gr.refl w).drewN _).trans hg).alloc _
      rw [store_wide hz]
      have hz2 : WB _ w1.heap.size ly (nw Y) (fun j => (wd Y j : Int)) := hz.row
      have F2 : Fr w1.heap.size _ _ := (Fr.refl w1.heap.size (w1.alloc (.cells Tryz.zeroCells136 136))).row (wcells ly (nw Y) (fun j => (wd Y j : Int)))
      have hx3 := hx2.fr F2 hgz
      have G2 := G1.fr F2 hsz
      clear hz hx2 hxw hyw G1 F2
      generalize hw2 : World.setRow _ w1.heap.size _ = w2 at *
      generalize w1.heap.size = gz at *
      have HC := Lib.hid (carry_loop w2 gz gx ly lx Y X (-1) 0 (Y - X) ⟨hz2, Hy.out.2⟩ ⟨hx3, Hx.out.2⟩ hgz (by have := Hx.out.bd; omega) (by decide) (by decide) (by simp; omega) (by have := Hy.out.2; omega))
      clear hw2 hg
      go_wp2_with fail
      refine HC.out.mono ?_
      rintro e w3 ⟨rfl, hi, hf⟩
      have hx4 := hx3.fr hf hgz
      have G3 := G2.fr hf hsz
      go_wp2_with fail
      refine wp_load_row 136 _ rfl gz rfl 136 _ _ _ hi.1 Tryz.underlying136 rfl (by kernel_rfl) ?_
      go_wp2_with fail
      rw [store_wide hx4]
      go_wp2_with fail
      go_end0
      refine ⟨rfl, ⟨ly, Y - X, ⟨hx4.row, hi.2⟩, ?_⟩, (Fr.of G3.b).row _⟩
      unfold wint
      cases lx <;> cases ly <;> first | (exact absurd rfl hl) | (simp; omega)
end Go.Proofs.YtlmdpamehhcblaaGreatDoor
/- Contracts of package whole: sum, Add, Total, Neg. -/
namespace Go.Proofs.YtlmdpamehhcblaaGreatDoor
open Go.RowKit
open Go.Lib (itoa decDigits)
open YtlmdpamehhcblaaGreatDoorV (wd nw B upd B_eq)

/-- The sum of a list. -/
def isum (l : List Int) : Int := l.foldl (· + ·) 0
theorem isum_snoc (l : List Int) (j : Nat) (h : j < l.length) : isum (l.take (j + 1)) = isum (l.take j) + l.getD j 0 := by
  unfold isum
  rw [List.take_add_one, List.getElem?_eq_getElem h, Option.toList_some, List.foldl_append, List.getD_eq_getElem?_getD, List.getElem?_eq_getElem h]
  rfl
theorem lim_two {u v : Nat} (hu : u < YtlmdpamehhcblaaGreatDoorD.Lim) (hv : v < YtlmdpamehhcblaaGreatDoorD.Lim) : u + v < B ^ 232 := by
  have h1 := nw_le_of hu
  have h2 := nw_le_of hv
  have k1 := (YtlmdpamehhcblaaGreatDoorV.nw_le_iff _ _).1 h1
  have k2 := (YtlmdpamehhcblaaGreatDoorV.nw_le_iff _ _).1 h2
  have key : ∀ k m, m = k + 118 → 2 * B ^ k ≤ B ^ m := by
    intro k m e
    subst e
    rw [Nat.pow_add, Nat.mul_comm]
    apply Nat.mul_le_mul_left
    have : 2 ≤ B ^ 1 := by rw [Nat.pow_one, B_eq]; decide
    exact Nat.le_trans this (Nat.pow_le_pow_right YtlmdpamehhcblaaGreatDoorV.B_pos (by decide))
  have := key 114 232 rfl
  omega
/-- What whole.sum's loop keeps. -/
def SumRel (g : Nat) (s : Int) (w wr : World) : Prop := (∃ l v, IsW wr g l v ∧ wint l v = s) ∧ Gr w wr
set_option maxHeartbeats 2000000 in
set_option maxRecDepth 100000 in
theorem sum_c (w : World) (he : Env w) (h c : Nat) (l : List Int) (hl : IntsAt w h 0 l) (hn : l.length ≤ 9223372036854775807)
    (hb : ∀ n ∈ l, n.natAbs < YtlmdpamehhcblaaGreatDoorD.Lim) (hp : ∀ j, (isum (l.take j)).natAbs < YtlmdpamehhcblaaGreatDoorD.Lim) :
    Calls Tryz.prog 112 #[.slice (some ⟨h, 0, none⟩) l.length c] w (RetI (isum l) w) := by
  have HL := Lib.hid hl
  have HB := Lib.hid hb
  have HP := Lib.hid hp
  have HE := Lib.hid he
  clear hl hb hp he
  unfold RetI
  go_enter Tryz.func112, Tryz.ntmps112
  go_wp2_with fail
  go_loopg [11] l.length (fun k i wr => ∃ j : Nat, k + j = l.length ∧ i = .int .i64 j ∧ Aside (SumRel w.heap.size (isum (l.take j)) w wr))
  case atStart => exact ⟨0, rfl, rfl, ⟨false, 0, IsW.zero (WB.new' w), rfl⟩, (Gr.refl w).alloc _⟩
  case round =>
    obtain ⟨j, hj, rfl, A⟩ := hrel
    have HJ := Lib.hid hj; clear hj
    obtain ⟨⟨l0, v0, hw0, e0⟩, G⟩ := A.out
    by_cases hlt : j < l.length
    · have hcc := (HL.out.gr G) j hlt
      rw [Nat.zero_add] at hcc
      have hmem : l.getD j 0 ∈ l := by rw [List.getD_eq_getElem?_getD, List.getElem?_eq_getElem hlt]; exact List.getElem_mem hlt
      have hsn := isum_snoc l j hlt
      have hR := Lib.hid (fun w1 => read_c w1 (l.getD j 0) (HB.out _ hmem))
      have hv0 : v0 < YtlmdpamehhcblaaGreatDoorD.Lim := by have := HP.out j; rw [← e0, wint_abs] at this; exact this
      have hP := Lib.hid (fun (w1 : World) g hx hy hne => plus_c w1 w.heap.size g l0 (decide (l.getD j 0 < 0)) v0 (l.getD j 0).natAbs hx hy hne (lim_two hv0 (HB.out _ hmem)))
      have ew : wint (decide (l.getD j 0 < 0)) (l.getD j 0).natAbs = l.getD j 0 := by
        unfold wint
        rcases (show l.getD j 0 < 0 ∨ 0 ≤ l.getD j 0 by omega) with hh | hh
        · rw [decide_eq_true hh]; simp only [if_true]; omega
        · rw [decide_eq_false (by omega)]; simp only [Bool.false_eq_true, if_false]; omega
      rw [ew, e0, ← hsn] at hP
      clear hmem hsn ew hv0 e0
      generalize decide (l.getD j 0 < 0) = ln at *
      generalize (l.getD j 0).natAbs = vn at *
      generalize bs (itoa (l.getD j 0)) = s at *
      have HW0 := Lib.hid hw0
      have hgs : w.heap.size < wr.heap.size := hw0.1.lt
      have HG := Lib.hid G
      clear hw0 G A
      go_wp2_with fail
      refine (hR.out _).mono ?_
      rintro e w1 ⟨g, rfl, hg, hw, hg1⟩
      go_wp2_with fail
      refine (hP.out _ _ (HW0.out.grow hg1) hw (by omega)).mono ?_
      rintro e w2 ⟨rfl, hex, hf⟩
      have A2 : Aside (SumRel w.heap.size (isum (l.take (j + 1))) w w2) := ⟨hex, (HG.out.trans hg1).fr hf (Nat.le_refl _)⟩
      clear hg hw hg1 hex hf hcc HW0 HG
      go_wp2_with fail
      go_roundg (gk - 1)
      case measure => have := HJ.out; omega
      case rel => exact ⟨j + 1, by have := HJ.out; omega, by go_num, A2.out⟩
    · have e1 : isum (l.take j) = isum l := by rw [List.take_of_length_le (by omega)]
      rw [e1] at e0
      have hv0 : v0 < YtlmdpamehhcblaaGreatDoorD.Lim := by have := HP.out j; rw [e1, ← e0, wint_abs] at this; exact this
      have hli := Lib.hid (limited_c wr (HE.out.gr G) w.heap.size l0 v0 hw0 hv0)
      unfold RetI at hli
      rw [e0] at hli
      go_wp2_with fail
      refine hli.out.mono ?_
      rintro e w1 ⟨rfl, hg1⟩
      go_wp2_with fail
      go_ret2
      exact ⟨rfl, G.trans hg1⟩
theorem sum2_c (w : World) (he : Env w) (g : Nat) (m n : Int) (h0 : w.cell? ⟨g, 0, none⟩ = some (.string (bs (itoa m)))) (h1 : w.cell? ⟨g, 1, none⟩ = some (.string (bs (itoa n))))
    (hm : m.natAbs < YtlmdpamehhcblaaGreatDoorD.Lim) (hn : n.natAbs < YtlmdpamehhcblaaGreatDoorD.Lim) (hmn : (m + n).natAbs < YtlmdpamehhcblaaGreatDoorD.Lim) : Calls Tryz.prog 112 #[.slice (some ⟨g, 0, none⟩) 2 2] w (RetI (m + n) w) := by
  have := sum_c w he g 2 [m, n] (fun j hj => by
    match j, hj with
    | 0, _ => exact h0
    | 1, _ => exact h1) (by simp) (fun x hx => by
    simp only [List.mem_cons, List.not_mem_nil, or_false] at hx
    rcases hx with rfl | rfl
    · exact hm
    · exact hn) (fun j => by
    match j with
    | 0 => have := YtlmdpamehhcblaaGreatDoorD.lim_big; show 0 < _; omega
    | 1 => unfold isum; simpa using hm
    | j + 2 => rw [show isum (List.take (j + 2) [m, n]) = m + n by unfold isum; simp]; exact hmn)
  rw [show isum [m, n] = m + n by unfold isum; simp] at this
  exact this
set_option maxHeartbeats 2000000 in
theorem Add_c (w : World) (he : Env w) (m n : Int) (hm : m.natAbs < YtlmdpamehhcblaaGreatDoorD.Lim) (hn : n.natAbs < YtlmdpamehhcblaaGreatDoorD.Lim) (hmn : (m + n).natAbs < YtlmdpamehhcblaaGreatDoorD.Lim) :
    Calls Tryz.prog 222 #[.string (bs (itoa m)), .string (bs (itoa n))] w (RetI (m + n) w) := by
  have HA := Lib.hid (fun w g h0 h1 => all2_c w g m n h0 h1 hm hn)
  have lm := itoa_len_le hm
  have ln := itoa_len_le hn
  by_cases hs : isShort m = true ∧ isShort n = true
  · have HS := Lib.hid (fun w => small_yes w m n hs.1 hs.2)
    have b1 := short_bd hs.1
    have b2 := short_bd hs.2
    have hb1 : -9000000000000000000 ≤ m + n := by omega
    have hb2 : m + n ≤ 9000000000000000000 := by omega
    have HQ := Lib.hid (fun w he => result_c w he (m + n) (by omega) (by omega))
    clear hm hn hmn lm ln hs b1 b2
    unfold RetI at *
    generalize bs (itoa (m + n)) = r at *
    generalize bs (itoa m) = s at *
    generalize bs (itoa n) = t at *
    go_enter Tryz.func222, Tryz.ntmps222
    go_wp2_with fail
    refine (HA.out _ _ (new2 w _ _ _).1 (new2 w _ _ _).2).mono ?_
    rintro e w1 ⟨rfl, hg1⟩
    have HG1 := Lib.hid (((Gr.refl w).alloc _).trans hg1)
    clear hg1
    go_wp2_with fail
    refine (HS.out _).mono ?_
    rintro e w2 ⟨rfl, hg2⟩
    have HG2 := Lib.hid (HG1.out.trans hg2)
    clear hg2
    go_wp2_with fail
    refine (HQ.out _ (he.gr HG2.out)).mono ?_
    rintro e w3 ⟨rfl, hg3⟩
    go_wp2_with fail
    go_ret2
    exact ⟨rfl, HG2.out.trans hg3⟩
  · have hs2 : isShort m = false ∨ isShort n = false := by
      cases ha : isShort m <;> cases hb : isShort n <;> simp_all
    have HS := Lib.hid (fun w => small_no w m n hs2 (by omega) (by omega))
    have HQ := Lib.hid (fun w he g h0 h1 => sum2_c w he g m n h0 h1 hm hn hmn)
    clear hm hn hmn lm ln hs hs2
    unfold RetI at *
    generalize bs (itoa (m + n)) = r at *
    generalize bs (itoa m) = s at *
    generalize bs (itoa n) = t at *
    go_enter Tryz.func222, Tryz.ntmps222
    go_wp2_with fail
    refine (HA.out _ _ (new2 w _ _ _).1 (new2 w _ _ _).2).mono ?_
    rintro e w1 ⟨rfl, hg1⟩
    have HG1 := Lib.hid (((Gr.refl w).alloc _).trans hg1)
    clear hg1
    go_wp2_with fail
    refine (HS.out _).mono ?_
    rintro e w2 ⟨rfl, hg2⟩
    have HG2 := Lib.hid (HG1.out.trans hg2)
    clear hg2
    go_wp2_with fail
    refine (HQ.out _ (he.gr (HG2.out.alloc _)) _ (new2 w2 _ _ _).1 (new2 w2 _ _ _).2).mono ?_
    rintro e w3 ⟨rfl, hg3⟩
    go_wp2_with fail
    go_ret2
    exact ⟨rfl, (HG2.out.alloc _).trans hg3⟩
theorem itoa_opp_pos {n : Int} (h : 0 < n) : itoa (-n) = 45 :: itoa n := by
  obtain ⟨k, rfl⟩ := Int.eq_ofNat_of_zero_le (Int.le_of_lt h)
  rw [YtlmdpamehhcblaaGreatDoorD.itoa_neg (by omega), YtlmdpamehhcblaaGreatDoorD.itoa_nat]
theorem itoa_opp_neg {n : Int} (h : n < 0) : itoa (-n) = (itoa n).drop 1 := by
  have := itoa_opp_pos (n := -n) (by omega)
  rw [Int.neg_neg] at this
  rw [this]; rfl
set_option maxHeartbeats 1000000 in
theorem opposite_c (w : World) (n : Int) (hn : n.natAbs < YtlmdpamehhcblaaGreatDoorD.Lim) : Calls Tryz.prog 243 #[.string (bs (itoa n))] w fun e w' => e = .returned (.string (bs (itoa (-n)))) ∧ w' = w := by
  have HS := Lib.hid (sign_c n w)
  have hl := itoa_len_le hn
  have hp := itoa_pos n
  have hsz := bs_size (itoa n)
  rcases Int.lt_trichotomy n 0 with h | h | h
  · have e : bs (itoa (-n)) = (bs (itoa n)).extract 1 (bs (itoa n)).size := by
      rw [bs_extract, itoa_opp_neg h, bs_size, List.take_of_length_le (by simp)]
    rw [e]
    rw [Int.sign_eq_neg_one_of_neg h] at HS
    clear e h hsz
    generalize bs (itoa n) = s at *
    go_enter Tryz.func243, Tryz.ntmps243
    go_wp2_with fail
    refine HS.out.mono ?_
    rintro e w1 ⟨rfl, rfl⟩
    go_wp2_with fail
    go_ret
    exact ⟨rfl, rfl⟩
  · subst h
    rw [show (0 : Int).sign = 0 from rfl] at HS
    rw [show (-0 : Int) = 0 from rfl]
    generalize bs (itoa 0) = s at *
    go_enter Tryz.func243, Tryz.ntmps243
    go_wp2_with fail
    refine HS.out.mono ?_
    rintro e w1 ⟨rfl, rfl⟩
    go_wp2_with fail
    go_ret
    exact ⟨rfl, rfl⟩
  · have e : bs (itoa (-n)) = bs [45] ++ bs (itoa n) := by rw [itoa_opp_pos h, bs_append]; rfl
    rw [e]
    rw [Int.sign_eq_one_of_pos h] at HS
    clear e h
    generalize bs (itoa n) = s at *
    have hlen : s.size ≤ 2000 := by omega
    go_enter Tryz.func243, Tryz.ntmps243
    go_wp2_with fail
    refine HS.out.mono ?_
    rintro e w1 ⟨rfl, rfl⟩
    go_wp2_with fail
    go_ret
    exact ⟨rfl, rfl⟩
set_option maxHeartbeats 1000000 in
theorem Neg_c (w : World) (n : Int) (hn : n.natAbs < YtlmdpamehhcblaaGreatDoorD.Lim) : Calls Tryz.prog 215 #[.string (bs (itoa n))] w (RetI (-n) w) := by
  have H1 := Lib.hid (fun w => Check_int w n hn)
  have H2 := Lib.hid (fun w => opposite_c w n hn)
  clear hn
  unfold RetI
  unfold RetE at H1
  generalize bs (itoa n) = s at *
  generalize bs (itoa (-n)) = t at *
  go_enter Tryz.func215, Tryz.ntmps215
  go_wp2_with fail
  refine (H1.out _).mono ?_
  rintro e w1 ⟨rfl, hg⟩
  go_wp2_with fail
  refine (H2.out _).mono ?_
  rintro e w2 ⟨rfl, rfl⟩
  go_wp2_with fail
  go_ret2
  exact ⟨rfl, hg⟩
end Go.Proofs.YtlmdpamehhcblaaGreatDoor
/- Contracts of package ratio: Add, Neg. -/
namespace Go.Proofs.YtlmdpamehhcblaaGreatDoor
open Go.RowKit
open Go.Lib (itoa decDigits)
open YtlmdpamehhcblaaGreatDoorD (rtext rjoin cutc canon Q)

theorem ent222 : Ent 222 := ent_of Tryz.func222 rfl rfl
set_option maxHeartbeats 1000000 in
set_option maxRecDepth 20000 in
theorem add_c (w : World) (he : Env w) (g : Nat) (hs : S0 w g) (a b : Int) (ha : a.natAbs < YtlmdpamehhcblaaGreatDoorD.Lim) (hb : b.natAbs < YtlmdpamehhcblaaGreatDoorD.Lim) (hab : (a + b).natAbs < YtlmdpamehhcblaaGreatDoorD.Lim) :
    Calls Tryz.prog 172 #[.pointer (some ⟨g, 0, none⟩), .string (bs (itoa a)), .string (bs (itoa b))] w (RetT (a + b) w) := by
  have HD := Lib.hid (do_c w g _ ent222 hs a b (a + b) (fun w2 k2 => Add_c w2 (he.gr k2) a b ha hb hab))
  unfold RetT at *
  generalize bs (itoa (a + b)) = r at *
  generalize bs (itoa a) = a at *
  generalize bs (itoa b) = b at *
  go_enter Tryz.func172, Tryz.ntmps172
  go_wp2_with fail
  refine HD.out.mono ?_
  rintro e w1 ⟨rfl, hg⟩
  go_wp2_with fail
  go_ret
  exact ⟨rfl, hg⟩
set_option maxHeartbeats 2000000 in
set_option maxRecDepth 20000 in
theorem RAdd1_c (w : World) (he : Env w) (g : Nat) (hs : S0 w g) (n p m q : Int) (hn : n.natAbs < YtlmdpamehhcblaaGreatDoorD.Lim) (hp : p.natAbs < YtlmdpamehhcblaaGreatDoorD.Lim) (hm : m.natAbs < YtlmdpamehhcblaaGreatDoorD.Lim) (hq : q.natAbs < YtlmdpamehhcblaaGreatDoorD.Lim)
    (h1 : (n * q).natAbs < YtlmdpamehhcblaaGreatDoorD.Lim) (h2 : (m * p).natAbs < YtlmdpamehhcblaaGreatDoorD.Lim) (h3 : (n * q + m * p).natAbs < YtlmdpamehhcblaaGreatDoorD.Lim) (h4 : (p * q).natAbs < YtlmdpamehhcblaaGreatDoorD.Lim) :
    Calls Tryz.prog 171 #[.pointer (some ⟨g, 0, none⟩), .string (bs (itoa n)), .string (bs (itoa p)), .string (bs (itoa m)), .string (bs (itoa q))] w
      fun e w'' => e = .returned (.tuple #[.string (bs (itoa (n * q + m * p))), .string (bs (itoa (p * q)))]) ∧ Gr w w'' := by
  have M1 := Lib.hid (fun (w : World) (he : Env w) g h (hs : S0 w g) h0 h3 => hs.mul2 he (h := h) n q h0 h3 hn hq h1)
  have M2 := Lib.hid (fun (w : World) (he : Env w) g h (hs : S0 w g) h0 h3 => hs.mul2 he (h := h) m p h0 h3 hm hp h2)
  have M3 := Lib.hid (fun (w : World) (he : Env w) g h (hs : S0 w g) h0 h3 => hs.mul2 he (h := h) p q h0 h3 hp hq h4)
  have HA := Lib.hid (fun (w : World) (he : Env w) g (hs : S0 w g) => add_c w he g hs _ _ h1 h2 h3)
  have HE := Lib.hid he
  clear hn hp hm hq h1 h2 h3 h4 he
  unfold RetT at M1 M2 M3 HA
  generalize bs (itoa (n * q + m * p)) = u at *
  generalize bs (itoa (n * q)) = x at *
  generalize bs (itoa (m * p)) = y at *
  generalize bs (itoa (p * q)) = z at *
  generalize bs (itoa n) = n at *
  generalize bs (itoa m) = m at *
  generalize bs (itoa p) = p at *
  generalize bs (itoa q) = q at *
  go_enter Tryz.func171, Tryz.ntmps171
  go_wp2_with fail
  have N := new2 w (.string n) (.string q) 55
  have G5 := (Gr.refl w).alloc (.cells #[.string n, .string q] 55)
  have S5 := hs.gr G5
  refine (M1.out _ (HE.out.gr G5) _ _ S5 N.1 N.2).mono ?_
  rintro e w4 ⟨rfl, hg4⟩
  have G6 : Gr w w4 := G5.trans hg4
  have S6 := S5.gr hg4
  clear S5 G5 hg4 N
  go_wp2_with fail
  have N := new2 w4 (.string m) (.string p) 55
  have G7 := G6.alloc (.cells #[.string m, .string p] 55)
  have S7 := S6.gr ((Gr.refl _).alloc (.cells #[.string m, .string p] 55))
  refine (M2.out _ (HE.out.gr G7) _ _ S7 N.1 N.2).mono ?_
  rintro e w5 ⟨rfl, hg5⟩
  have G8 := G7.trans hg5
  have S8 := S7.gr hg5
  clear S6 S7 G6 G7 hg5 N
  go_wp2_with fail
  refine (HA.out _ (HE.out.gr G8) _ S8).mono ?_
  rintro e w6 ⟨rfl, hg6⟩
  have G9 := G8.trans hg6
  have S9 := S8.gr hg6
  clear S8 G8 hg6
  go_wp2_with fail
  have N := new2 w6 (.string p) (.string q) 55
  have G10 := G9.alloc (.cells #[.string p, .string q] 55)
  have S10 := S9.gr ((Gr.refl _).alloc (.cells #[.string p, .string q] 55))
  refine (M3.out _ (HE.out.gr G10) _ _ S10 N.1 N.2).mono ?_
  rintro e w7 ⟨rfl, hg7⟩
  go_wp2_with fail
  go_ret2
  exact ⟨rfl, G10.trans hg7⟩
set_option maxHeartbeats 1000000 in
theorem RAdd_c (w : World) (he : Env w) (a b : Rat) (ha : Q a) (hb : Q b) :
    Calls Tryz.prog 93 #[.string (bs (rtext a)), .string (bs (rtext b))] w (RetRQ (a + b) w) := by
  have l1 : (a.num * (b.den : Int)).natAbs < YtlmdpamehhcblaaGreatDoorD.Lim := by rw [YtlmdpamehhcblaaGreatDoorD.abs_mul]; exact YtlmdpamehhcblaaGreatDoorD.half_mul ha.n hb.d
  have l2 : (b.num * (a.den : Int)).natAbs < YtlmdpamehhcblaaGreatDoorD.Lim := by rw [YtlmdpamehhcblaaGreatDoorD.abs_mul]; exact YtlmdpamehhcblaaGreatDoorD.half_mul hb.n ha.d
  have l3 : (a.num * (b.den : Int) + b.num * (a.den : Int)).natAbs < YtlmdpamehhcblaaGreatDoorD.Lim := by
    have h1 := YtlmdpamehhcblaaGreatDoorD.abs_add (a.num * (b.den : Int)) (b.num * (a.den : Int))
    rw [YtlmdpamehhcblaaGreatDoorD.abs_mul, YtlmdpamehhcblaaGreatDoorD.abs_mul] at h1
    exact Nat.lt_of_le_of_lt h1 (YtlmdpamehhcblaaGreatDoorD.half_mul2 ha.n hb.d hb.n ha.d)
  have l4 : a.den * b.den < YtlmdpamehhcblaaGreatDoorD.Lim := YtlmdpamehhcblaaGreatDoorD.half_mul ha.d hb.d
  have HM := Lib.hid (made_c w he _ ent171 a b ha hb _ (a.den * b.den) l3 l4 (Nat.mul_ne_zero a.den_nz b.den_nz) (fun w' g he' hs => by
    have := RAdd1_c w' he' g hs a.num a.den b.num b.den ha.ln ha.ld hb.ln hb.ld l1 l2 l3 (by show ((a.den * b.den : Nat) : Int).natAbs < _; exact l4)
    exact this))
  rw [← YtlmdpamehhcblaaGreatDoorD.add_mk] at HM
  unfold RetRQ at HM ⊢
  clear l1 l2 l3 l4
  generalize bs (rtext (a + b)) = r at *
  generalize bs (rtext a) = sa at *
  generalize bs (rtext b) = sb at *
  go_enter Tryz.func93, Tryz.ntmps93
  go_wp2_with fail
  refine HM.out.mono ?_
  rintro e w1 ⟨rfl, hg1⟩
  go_wp2_with fail
  go_ret2
  exact ⟨rfl, hg1⟩
set_option maxHeartbeats 1000000 in
theorem RNeg_c (w : World) (he : Env w) (a : Rat) (ha : Q a) : Calls Tryz.prog 153 #[.string (bs (rtext a))] w (RetRQ (-a) w) := by
  have H1 := Lib.hid (Parts_c w he a ha)
  have H2 := Lib.hid (fun w => Neg_c w a.num ha.ln)
  have HJ := Lib.hid (fun w => by
    have l1 := itoa_len_le (n := -a.num) (by rw [Int.natAbs_neg]; exact ha.ln)
    have l2 := itoa_len_le (n := (a.den : Int)) ha.ld
    have := joined_c w (itoa (-a.num)) (itoa (a.den : Int)) (by omega)
    rw [YtlmdpamehhcblaaGreatDoorD.itoa_nat] at this
    have e : rjoin (itoa (-a.num)) (decDigits a.den) = rtext (-a) := YtlmdpamehhcblaaGreatDoorD.rjoin_q (-a)
    rw [e] at this
    rw [YtlmdpamehhcblaaGreatDoorD.itoa_nat]
    exact this : ∀ w, Calls Tryz.prog 186 #[.string (bs (itoa (-a.num))), .string (bs (itoa (a.den : Int)))] w fun e w' => e = .returned (.string (bs (rtext (-a)))) ∧ w' = w)
  unfold RetI at H2
  unfold RetRQ
  clear ha
  generalize bs (rtext (-a)) = r at *
  generalize bs (rtext a) = s at *
  generalize bs (itoa (-a.num)) = n' at *
  generalize bs (itoa a.num) = n at *
  generalize bs (itoa (a.den : Int)) = d at *
  go_enter Tryz.func153, Tryz.ntmps153
  go_wp2_with fail
  refine H1.out.mono ?_
  rintro e w1 ⟨rfl, hg1⟩
  go_wp2_with fail
  refine (H2.out _).mono ?_
  rintro e w2 ⟨rfl, hg2⟩
  go_wp2_with fail
  refine (HJ.out _).mono ?_
  rintro e w3 ⟨rfl, rfl⟩
  go_wp2_with fail
  go_ret2
  exact ⟨rfl, hg1.trans hg2⟩
end Go.Proofs.YtlmdpamehhcblaaGreatDoor
