import Derived.Test.YtlmdpamehhcblaaGreatDoorRa
/- Contracts of package ratio: sums. -/
namespace Go.Proofs.YtlmdpamehhcblaaGreatDoor
open Go.RowKit
open Go.Lib (itoa decDigits)
open YtlmdpamehhcblaaGreatDoorD (rtext rjoin cutc canon)

/-- A keeper of the first error, which has seen none. -/
def S0 (w : World) (g : Nat) : Prop := w.heap[g]? = some (.cells #[.int .i64 0] 126 (0, 0))
theorem S0.cell {w : World} {g : Nat} (h : S0 w g) : w.cell? ⟨g, 0, none⟩ = some (.int .i64 0) := by unfold World.cell?; rw [h]; rfl
theorem S0.thaw {w : World} {g : Nat} (h : S0 w g) : w.frozen? ⟨g, 0, none⟩ = false := by unfold World.frozen?; rw [h]; rfl
theorem S0.lt {w : World} {g : Nat} (h : S0 w g) : g < w.heap.size := (Array.getElem?_eq_some_iff.1 h).1
theorem S0.gr {w w' : World} {g : Nat} (h : S0 w g) (k : Gr w w') : S0 w' g := by unfold S0; rw [k.b.block g h.lt]; exact h
theorem S0.set {w : World} {g : Nat} (h : S0 w g) : w.setCell ⟨g, 0, none⟩ (.int .i64 0) = w := by
  unfold World.setCell
  have : w.heap.modify g (fun | .cells c elem frozen => .cells (if (none : Option Nat).isSome then c else c.setIfInBounds 0 (.int .i64 0)) elem frozen | o => o) = w.heap := by
    apply Array.ext_getElem?
    intro i
    rw [Array.getElem?_modify]
    split
    · rename_i e; subst e
      unfold S0 at h
      rw [h]; rfl
    · rfl
  exact congrArg (fun x => { w with heap := x }) this
theorem S0.new (w : World) : S0 (w.alloc (.cells #[.int .i64 0] 126 (0, 0))) w.heap.size := by
  unfold S0 World.alloc; simp
/-- A text of an integer. -/
def RetT (n : Int) (w : World) (e : Ending) (w' : World) : Prop := e = .returned (.string (bs (itoa n))) ∧ Gr w w'
/-- A function of the program's own, entered by a call. -/
def Ent (k : Nat) : Prop := ∀ args w, (callFunc k args).run Tryz.prog w = .ok (.enter k args) w
theorem ent_of {k : Nat} {fn : Func} {c : Code} (hf : Tryz.prog.funcs[k]? = some fn) (hname : (fn.name == "runtime.NumGoroutine") = false) (hb : fn.body = some c) : Ent k := by
  intro args w
  have h1 : fn.name ≠ "runtime.NumGoroutine" := by simpa using hname
  simp [callFunc, hf, h1, hb]
set_option maxHeartbeats 1000000 in
set_option maxRecDepth 20000 in
theorem do_c (w : World) (g k : Nat) (hk : Ent k) (hs : S0 w g) (a b r : Int) (ho : ∀ w', Gr w w' → Calls Tryz.prog k #[.string (bs (itoa a)), .string (bs (itoa b))] w' (RetI r w')) :
    Calls Tryz.prog 175 #[.pointer (some ⟨g, 0, none⟩), .func (.func k) #[] #[], .string (bs (itoa a)), .string (bs (itoa b))] w (RetT r w) := by
  have HO := Lib.hid ho
  have HS := Lib.hid hs
  have c0 := hs.cell
  clear hs ho
  unfold RetI at HO
  unfold RetT
  generalize bs (itoa a) = a at *
  generalize bs (itoa b) = b at *
  generalize bs (itoa r) = r at *
  go_enter Tryz.func175, Tryz.ntmps175
  go_wp2_with fail
  rw [hk]
  go_wp2_with fail
  refine (HO.out _ (Gr.refl _)).mono ?_
  rintro e w1 ⟨rfl, hg⟩
  have c1 := (HS.out.gr hg).cell
  have f1 := (HS.out.gr hg).thaw
  go_wp2_with fail
  go_ret
  exact ⟨rfl, by rw [(HS.out.gr hg).set]; exact hg⟩
theorem ent113 : Ent 113 := ent_of Tryz.func113 rfl rfl
theorem ent137 : Ent 137 := ent_of Tryz.func137 rfl rfl
theorem ent184 : Ent 184 := ent_of Tryz.func184 rfl rfl
/-- The product of a list. -/
def ip (l : List Int) : Int := l.foldl (· * ·) 1
theorem ip_snoc (l : List Int) (j : Nat) (h : j < l.length) : ip (l.take (j + 1)) = ip (l.take j) * l.getD j 0 := by
  unfold ip
  rw [List.take_add_one, List.getElem?_eq_getElem h, Option.toList_some, List.foldl_append, List.getD_eq_getElem?_getD, List.getElem?_eq_getElem h]
  rfl
set_option maxHeartbeats 1000000 in
set_option maxRecDepth 20000 in
theorem mul_c (w : World) (he : Env w) (g h c : Nat) (hs : S0 w g) (l : List Int) (hl : IntsAt w h 0 l) (hn : l.length ≤ 9223372036854775807)
    (hb : ∀ n ∈ l, n.natAbs < YtlmdpamehhcblaaGreatDoorD.Lim) (hp : ∀ j, (ip (l.take j)).natAbs < YtlmdpamehhcblaaGreatDoorD.Lim) :
    Calls Tryz.prog 98 #[.pointer (some ⟨g, 0, none⟩), .slice (some ⟨h, 0, none⟩) l.length c] w (RetT (ip l) w) := by
  have HL := Lib.hid hl
  have HB := Lib.hid hb
  have HP := Lib.hid hp
  have HS := Lib.hid hs
  have HE := Lib.hid he
  have e0 : itoa 1 = [49] := by decide +kernel
  clear hl hb hp hs he
  unfold RetT
  go_enter Tryz.func98, Tryz.ntmps98
  go_wp2_with fail
  go_loopg [5, 13] l.length (fun k o i wr => ∃ j : Nat, k + j = l.length ∧ i = .int .i64 j ∧ o = .string (bs (itoa (ip (l.take j)))) ∧ Aside (Gr w wr))
  case atStart => exact ⟨0, rfl, rfl, by show Value.string (bs [49]) = _; rw [← e0]; rfl, Gr.refl w⟩
  case round =>
    obtain ⟨j, hj, rfl, rfl, A⟩ := hrel
    have HJ := Lib.hid hj; clear hj
    by_cases hlt : j < l.length
    · have hcc := (HL.out.gr A.out) j hlt
      rw [Nat.zero_add] at hcc
      have hmem : l.getD j 0 ∈ l := by rw [List.getD_eq_getElem?_getD, List.getElem?_eq_getElem hlt]; exact List.getElem_mem hlt
      have hsn := ip_snoc l j hlt
      have hd := Lib.hid (fun w1 (k : Gr w w1) => do_c w1 g _ ent113 (HS.out.gr k) (ip (l.take j)) (l.getD j 0) (ip (l.take (j + 1))) (fun w2 k2 => by
        rw [hsn]
        exact Mul_c w2 ((HE.out.gr k).gr k2) _ _ (HP.out j) (HB.out _ hmem) (by rw [← hsn]; exact HP.out (j + 1))))
      unfold RetT at hd
      clear hmem hsn
      generalize bs (itoa (l.getD j 0)) = s at *
      generalize bs (itoa (ip (l.take j))) = o at *
      go_wp2_with fail
      refine (hd.out _ A.out).mono ?_
      rintro e w1 ⟨rfl, hg⟩
      have A2 : Aside (Gr w w1) := A.out.trans hg
      clear A hg hcc
      go_wp2_with fail
      go_roundg (gk - 1)
      case measure => have := HJ.out; omega
      case rel => exact ⟨j + 1, by have := HJ.out; omega, by go_num, rfl, A2.out⟩
    · have : ip (l.take j) = ip l := by rw [List.take_of_length_le (by omega)]
      rw [this]
      clear this
      go_wp2_with fail
      go_ret
      exact ⟨rfl, A.out⟩
theorem itoa_no45 (u : Nat) : Lib.hasPrefix (itoa (u : Int)) [45] = false := by
  have h := YtlmdpamehhcblaaGreatDoorD.minus_itoa (u : Int)
  unfold YtlmdpamehhcblaaGreatDoorD.minus at h
  rw [decide_eq_false (by omega)] at h
  unfold Lib.hasPrefix
  cases hl : itoa (u : Int) with
  | nil => rfl
  | cons c r =>
    rw [hl] at h
    simp at h
    simp [List.isPrefixOf]
    exact fun x => h x.symm
/-- A text of a rational number. -/
def RetR (q : Rat) (w : World) (e : Ending) (w' : World) : Prop := e = .returned (.string (bs (rtext q))) ∧ Gr w w'
theorem gcd_eq (n : Int) (d : Nat) : Nat.gcd n.natAbs (d : Int).natAbs = Int.gcd n d := rfl
set_option maxHeartbeats 1000000 in
set_option maxRecDepth 20000 in
theorem lowest_c (w : World) (he : Env w) (g : Nat) (hs : S0 w g) (n : Int) (d : Nat) (hn : n.natAbs < YtlmdpamehhcblaaGreatDoorD.Lim) (hd : d < YtlmdpamehhcblaaGreatDoorD.Lim) (h0 : d ≠ 0) :
    Calls Tryz.prog 108 #[.pointer (some ⟨g, 0, none⟩), .string (bs (itoa n)), .string (bs (itoa (d : Int)))] w (RetR (mkRat n d) w) := by
  have hg0 : 0 < Int.gcd n d := Nat.pos_of_ne_zero (fun x => h0 (by have := Int.gcd_eq_zero_iff.1 x; omega))
  have hgl : (Int.gcd n d : Int).natAbs < YtlmdpamehhcblaaGreatDoorD.Lim := by
    have : Int.gcd n d ≤ d := Nat.le_of_dvd (by omega) (by have := Int.gcd_dvd_right (a := n) (b := (d : Int)); exact Int.natCast_dvd_natCast.1 this)
    show Int.gcd n d < _
    omega
  have dv1 : ((Int.gcd n d : Nat) : Int) ∣ n := Int.gcd_dvd_left ..
  have dv2 : ((Int.gcd n d : Nat) : Int) ∣ (d : Int) := Int.gcd_dvd_right ..
  have q1 := quo_lim hn (by omega : (0 : Int) < (Int.gcd n d : Nat)) (.inr dv1)
  have q2 := quo_lim (m := (d : Int)) hd (by omega : (0 : Int) < (Int.gcd n d : Nat)) (.inr dv2)
  have D1 := Lib.hid (fun w1 (k : Gr w w1) => do_c w1 g _ ent184 (hs.gr k) n d (Int.gcd n d : Nat) (fun w2 k2 => Gcd_c w2 ((he.gr k).gr k2) n d hn hd))
  have D2 := Lib.hid (fun w1 (k : Gr w w1) => do_c w1 g _ ent137 (hs.gr k) n (Int.gcd n d : Nat) (n / (Int.gcd n d : Nat)) (fun w2 k2 => Quo_c w2 ((he.gr k).gr k2) n _ hn hgl (by omega) (.inr dv1)))
  have D3 := Lib.hid (fun w1 (k : Gr w w1) => do_c w1 g _ ent137 (hs.gr k) d (Int.gcd n d : Nat) (d / (Int.gcd n d : Nat)) (fun w2 k2 => Quo_c w2 ((he.gr k).gr k2) d _ hd hgl (by omega) (.inr dv2)))
  have HP := Lib.hid (fun w => by have := HasPrefix_c w (itoa (d : Int)) [45]; rw [itoa_no45] at this; exact this : ∀ w, Calls Tryz.prog 65 #[.string (bs (itoa (d : Int))), .string (bs [45])] w fun e w' => e = .returned (.bool false) ∧ w' = w)
  have HJ := Lib.hid (fun w => by
    have := joined_c w (itoa (n / (Int.gcd n d : Nat))) (itoa ((d : Int) / (Int.gcd n d : Nat))) (by have h1 := itoa_len_le q1; have h2 := itoa_len_le q2; omega)
    rw [show ((d : Int) / (Int.gcd n d : Nat)) = ((d / Int.gcd n d : Nat) : Int) from rfl, YtlmdpamehhcblaaGreatDoorD.itoa_nat, YtlmdpamehhcblaaGreatDoorD.lowest_eq n d h0] at this
    rw [show ((d : Int) / (Int.gcd n d : Nat)) = ((d / Int.gcd n d : Nat) : Int) from rfl, YtlmdpamehhcblaaGreatDoorD.itoa_nat]
    exact this : ∀ w, Calls Tryz.prog 186 #[.string (bs (itoa (n / (Int.gcd n d : Nat)))), .string (bs (itoa ((d : Int) / (Int.gcd n d : Nat))))] w fun e w' => e = .returned (.string (bs (rtext (mkRat n d)))) ∧ w' = w)
  have HS := Lib.hid hs
  clear hs q1 q2 dv1 dv2 hgl hg0 h0 hn hd he
  unfold RetT at D1 D2 D3
  unfold RetR
  generalize bs (rtext (mkRat n d)) = r at *
  generalize bs (itoa (n / (Int.gcd n d : Nat))) = n' at *
  generalize bs (itoa ((d : Int) / (Int.gcd n d : Nat))) = d' at *
  generalize bs (itoa (Int.gcd n d : Nat)) = gt at *
  generalize bs (itoa n) = sn at *
  generalize bs (itoa (d : Int)) = sd at *
  go_enter Tryz.func108, Tryz.ntmps108
  go_wp2_with fail
  refine (D1.out _ (Gr.refl _)).mono ?_
  rintro e w1 ⟨rfl, hg1⟩
  have c1 := (HS.out.gr hg1).cell
  go_wp2_with fail
  refine (HP.out _).mono ?_
  rintro e w2 ⟨rfl, rfl⟩
  go_wp2_with fail
  refine (D2.out _ hg1).mono ?_
  rintro e w2 ⟨rfl, hg2⟩
  go_wp2_with fail
  refine (D3.out _ (hg1.trans hg2)).mono ?_
  rintro e w3 ⟨rfl, hg3⟩
  go_wp2_with fail
  refine (HJ.out _).mono ?_
  rintro e w4 ⟨rfl, rfl⟩
  go_wp2_with fail
  go_ret
  exact ⟨rfl, (hg1.trans hg2).trans hg3⟩
end Go.Proofs.YtlmdpamehhcblaaGreatDoor
