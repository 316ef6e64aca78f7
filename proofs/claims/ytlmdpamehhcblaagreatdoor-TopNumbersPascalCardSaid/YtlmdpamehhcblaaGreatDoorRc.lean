import Derived.Test.YtlmdpamehhcblaaGreatDoorRb
import Derived.Test.YtlmdpamehhcblaaGreatDoorHalf
/- Contracts of package ratio: Make, Of, Whole, Parts, checks. -/
namespace Go.Proofs.YtlmdpamehhcblaaGreatDoor
open Go.RowKit
open Go.Lib (itoa decDigits)
open YtlmdpamehhcblaaGreatDoorD (rtext rjoin cutc canon Q)

/-- A rational number and no error. -/
def RetRQ (q : Rat) (w : World) (e : Ending) (w' : World) : Prop := e = .returned (.tuple #[.string (bs (rtext q)), .int .i64 0]) ∧ Gr w w'
theorem rcut_rtext (q : Rat) : (rcut (rtext q)).1 = itoa q.num ∧ (rcut (rtext q)).2.1 = itoa (q.den : Int) := by
  unfold rcut
  rw [YtlmdpamehhcblaaGreatDoorD.cutc_rtext]
  by_cases h : q.den = 1
  · rw [if_pos h, h]
    exact ⟨rfl, by show [49] = itoa ((1 : Nat) : Int); rw [YtlmdpamehhcblaaGreatDoorD.itoa_nat, YtlmdpamehhcblaaGreatDoorD.decDigits_1]⟩
  · rw [if_neg h]
    exact ⟨rfl, by rw [YtlmdpamehhcblaaGreatDoorD.itoa_nat]; rfl⟩
theorem rtext_len {q : Rat} (h : Q q) : (rtext q).length ≤ 2051 := by
  have h1 := itoa_len_le h.ln
  have h2 := itoa_len_le (n := (q.den : Int)) h.ld
  rw [YtlmdpamehhcblaaGreatDoorD.itoa_nat] at h2
  unfold rtext
  split
  · omega
  · rw [List.length_append, List.length_cons]; omega
theorem cutq_c (w : World) (he : Env w) (q : Rat) (h : Q q) :
    ∃ b, Calls Tryz.prog 101 #[.string (bs (rtext q))] w fun e w' => e = .returned (.tuple #[.string (bs (itoa q.num)), .string (bs (itoa (q.den : Int))), .bool b]) ∧ Gr w w' := by
  have := cut_c w he (rtext q) (by have := rtext_len h; omega)
  rw [(rcut_rtext q).1, (rcut_rtext q).2] at this
  exact ⟨_, this⟩
theorem rchk_rtext {q : Rat} (h : Q q) : rchk (rtext q) = 0 := by
  unfold rchk
  rw [(rcut_rtext q).1, (rcut_rtext q).2, chk_itoa h.ln, chk_itoa (n := (q.den : Int)) h.ld, if_neg (by decide), if_neg (by decide), if_pos ⟨q, rfl⟩]
theorem Checkq_c (w : World) (he : Env w) (q : Rat) (h : Q q) : Calls Tryz.prog 176 #[.string (bs (rtext q))] w (RetE 0 w) := by
  have := RCheck_c w he (rtext q) (by have := rtext_len h; omega)
  rwa [rchk_rtext h] at this
/-- A slice of rational numbers' texts in memory. -/
def RatsAt (w : World) (g off : Nat) (l : List Rat) : Prop := ∀ j, j < l.length → w.cell? ⟨g, off + j, none⟩ = some (.string (bs (rtext (l.getD j 0))))
theorem RatsAt.gr {w w' : World} {g off : Nat} {l : List Rat} (h : RatsAt w g off l) (k : Gr w w') : RatsAt w' g off l := fun j hj => cell_gr k (h j hj)
set_option maxHeartbeats 1000000 in
theorem checks_c (w : World) (he : Env w) (g c : Nat) (l : List Rat) (hl : RatsAt w g 0 l) (hn : l.length ≤ 9223372036854775807) (hb : ∀ n ∈ l, Q n) :
    Calls Tryz.prog 100 #[.slice (some ⟨g, 0, none⟩) l.length c] w (RetE 0 w) := by
  have HL := Lib.hid hl
  have HB := Lib.hid hb
  have HE := Lib.hid he
  clear hl hb he
  go_enter Tryz.func100, Tryz.ntmps100
  go_wp2_with fail
  go_loopg [8] l.length (fun k i wr => ∃ j : Nat, k + j = l.length ∧ i = .int .i64 j ∧ Aside (Gr w wr))
  case atStart => exact ⟨0, rfl, rfl, Gr.refl w⟩
  case round =>
    obtain ⟨j, hj, rfl, A⟩ := hrel
    have HJ := Lib.hid hj; clear hj
    by_cases hlt : j < l.length
    · have hc := (HL.out.gr A.out) j hlt
      rw [Nat.zero_add] at hc
      have hmem : l.getD j 0 ∈ l := by rw [List.getD_eq_getElem?_getD, List.getElem?_eq_getElem hlt]; exact List.getElem_mem hlt
      have hck := Lib.hid (fun w he => Checkq_c w he (l.getD j 0) (HB.out _ hmem))
      clear hmem
      generalize bs (rtext (l.getD j 0)) = s at *
      go_wp2_with fail
      refine (hck.out _ (HE.out.gr A.out)).mono ?_
      rintro e w1 ⟨rfl, hg⟩
      have A2 : Aside (Gr w w1) := A.out.trans hg
      clear A hg hc
      go_wp2_with fail
      go_roundg (gk - 1)
      case measure => have := HJ.out; omega
      case rel => exact ⟨j + 1, by have := HJ.out; omega, by go_num, A2.out⟩
    · go_wp2_with fail
      go_ret
      exact ⟨rfl, A.out⟩
theorem checks2_c (w : World) (he : Env w) (g : Nat) (a b : Rat) (h0 : w.cell? ⟨g, 0, none⟩ = some (.string (bs (rtext a)))) (h1 : w.cell? ⟨g, 1, none⟩ = some (.string (bs (rtext b)))) (ha : Q a) (hb : Q b) :
    Calls Tryz.prog 100 #[.slice (some ⟨g, 0, none⟩) 2 2] w (RetE 0 w) :=
  checks_c w he g 2 [a, b] (fun j hj => by
    match j, hj with
    | 0, _ => exact h0
    | 1, _ => exact h1) (by simp) (fun x hx => by
    simp only [List.mem_cons, List.not_mem_nil, or_false] at hx
    rcases hx with rfl | rfl
    · exact ha
    · exact hb)
set_option maxHeartbeats 2000000 in
set_option maxRecDepth 20000 in
theorem Make_c (w : World) (he : Env w) (n : Int) (d : Nat) (hn : n.natAbs < YtlmdpamehhcblaaGreatDoorD.Lim) (hd : d < YtlmdpamehhcblaaGreatDoorD.Lim) (h0 : d ≠ 0) :
    Calls Tryz.prog 39 #[.string (bs (itoa n)), .string (bs (itoa (d : Int)))] w (RetRQ (mkRat n d) w) := by
  have K1 := Lib.hid (fun w => Check_int w n hn)
  have K2 := Lib.hid (fun w => Check_int w (d : Int) hd)
  have HLo := Lib.hid (fun w he g hs => lowest_c w he g hs n d hn hd h0)
  have hz : ((bs (itoa (d : Int))).toList == [48]) = false := by
    rw [bs_toList]
    rw [beq_eq_false_iff_ne]
    intro h
    have h2 : itoa 0 = [48] := by decide +kernel
    rw [← h2] at h
    have := YtlmdpamehhcblaaGreatDoorD.itoa_inj h
    omega
  have HE := Lib.hid he
  clear hn hd h0 he
  unfold RetRQ
  unfold RetR at HLo
  generalize bs (rtext (mkRat n d)) = r at *
  generalize bs (itoa n) = sn at *
  generalize bs (itoa (d : Int)) = sd at *
  have N := new2 w (.string sn) (.string sd) 55
  obtain ⟨N0, N1⟩ := N
  go_enter Tryz.func39, Tryz.ntmps39
  go_wp2_with fail
  go_loopg [15] 2 (fun k i wr => ∃ j : Nat, k + j = 2 ∧ i = .int .i64 j ∧ Aside (Gr (w.alloc (.cells #[.string sn, .string sd] 55)) wr))
  case atStart => exact ⟨0, rfl, rfl, Gr.refl _⟩
  case round =>
    obtain ⟨j, hj, rfl, A⟩ := hrel
    have c0 := cell_gr A.out N0
    have c1 := cell_gr A.out N1
    match j, hj with
    | 0, hj =>
      go_wp2_with fail
      refine (K1.out _).mono ?_
      rintro e w1 ⟨rfl, hg⟩
      have A2 := A.out.trans hg
      go_wp2_with fail
      go_roundg (gk - 1)
      case measure => omega
      case rel => exact ⟨1, by omega, by go_num, A2⟩
    | 1, hj =>
      go_wp2_with fail
      refine (K2.out _).mono ?_
      rintro e w1 ⟨rfl, hg⟩
      have A2 := A.out.trans hg
      go_wp2_with fail
      go_roundg (gk - 1)
      case measure => omega
      case rel => exact ⟨2, by omega, by go_num, A2⟩
    | j + 2, hj =>
      have hj2 : j = 0 := by omega
      subst hj2
      go_wp2_with fail
      have G1 : Gr w _ := ((Gr.refl w).alloc _).trans A.out
      have S := S0.new wr
      have G2 : Gr w _ := G1.alloc (.cells #[.int .i64 0] 126 (0, 0))
      refine (HLo.out _ (HE.out.gr G2) _ S).mono ?_
      rintro e w1 ⟨rfl, hg⟩
      have c2 := (S.gr hg).cell
      go_wp2_with fail
      go_ret2
      exact ⟨rfl, G2.trans hg⟩
end Go.Proofs.YtlmdpamehhcblaaGreatDoor
