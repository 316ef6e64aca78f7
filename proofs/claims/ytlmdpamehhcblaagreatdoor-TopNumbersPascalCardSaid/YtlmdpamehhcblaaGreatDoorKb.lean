import Derived.Test.YtlmdpamehhcblaaGreatDoorKa
import Derived.Test.YtlmdpamehhcblaaGreatDoorRb
/- Contracts of the reference of whole: Shared of short integers, product, Times. -/
namespace Go.Proofs.YtlmdpamehhcblaaGreatDoor
open Go.RowKit
open Go.Lib (itoa decDigits)
open YtlmdpamehhcblaaGreatDoorD (mag minus isDig val natural Lim)

theorem signed_nat (w : World) (n : Int) (hl : (decDigits n.natAbs).length ≤ 3000) : Calls Tryz.prog 208 #[.string (bs (decDigits n.natAbs)), .bool false] w fun e w' => e = .returned (.string (bs (itoa (n.natAbs : Int)))) ∧ w' = w := by
  have h := signed1_c w n.natAbs false (by omega)
  rwa [if_neg (by simp)] at h
theorem is0_ne (n : Int) (h : n ≠ 0) : ((bs (itoa n)).toList == [48]) = false := by rw [itoa_is0]; exact decide_eq_false h
set_option maxHeartbeats 4000000 in
set_option maxRecDepth 20000 in
theorem shared18_c (w : World) (m n : Int) (hm : m.natAbs < 1000000000000000000) (hn : n.natAbs < 1000000000000000000) :
    Calls Tryz.prog 187 #[.string (bs (itoa m)), .string (bs (itoa n))] w fun e w' => e = .returned (.string (bs (itoa (Nat.gcd m.natAbs n.natAbs : Nat)))) ∧ Gr w w' := by
  have l1 : (decDigits m.natAbs).length ≤ 3000 := by have := (len18 m).2 hm; omega
  have l2 : (decDigits n.natAbs).length ≤ 3000 := by have := (len18 n).2 hn; omega
  have S1 := Lib.hid (fun w => size1_i w m)
  have S2 := Lib.hid (fun w => size1_i w n)
  have G1 := Lib.hid (fun w => signed_nat w m l1)
  have G2 := Lib.hid (fun w => signed_nat w n l2)
  have HB := fun w => brief1_c w (m.natAbs : Int) (n.natAbs : Int)
  rw [if_pos ⟨by omega, by omega⟩] at HB
  have HB := Lib.hid HB
  have z := itoa_is0 (n.natAbs : Int)
  clear l1 l2
  generalize m.natAbs = a at *
  generalize n.natAbs = b at *
  generalize bs (itoa m) = x at *
  generalize bs (itoa n) = y at *
  generalize bs (decDigits a) = da at *
  generalize bs (decDigits b) = db at *
  by_cases h0 : b = 0
  · subst h0
    rw [decide_eq_true (by rfl)] at z
    rw [Nat.gcd_zero_right]
    generalize bs (itoa (a : Int)) = ta at *
    generalize bs (itoa ((0 : Nat) : Int)) = tb at *
    go_enter Tryz.func187, Tryz.ntmps187
    go_wp2_with fail
    refine (S1.out _).mono ?_
    rintro e w1 ⟨rfl, rfl⟩
    go_wp2_with fail
    refine (G1.out _).mono ?_
    rintro e w1 ⟨rfl, rfl⟩
    go_wp2_with fail
    refine (S2.out _).mono ?_
    rintro e w1 ⟨rfl, rfl⟩
    go_wp2_with fail
    refine (G2.out _).mono ?_
    rintro e w1 ⟨rfl, rfl⟩
    go_wp2_with fail
    go_loopg [0, 1] 0 (fun k u v wr => k = 0 ∧ u = .string ta ∧ v = .string tb ∧ wr = w1)
    case atStart => exact ⟨rfl, rfl, rfl, rfl⟩
    case round =>
      obtain ⟨rfl, rfl, rfl, rfl⟩ := hrel
      go_wp2_with fail
      go_ret
      exact ⟨rfl, Gr.refl _⟩
  · rw [decide_eq_false (by omega)] at z
    obtain ⟨r, hr⟩ : ∃ r, r = Nat.gcd a b := ⟨_, rfl⟩
    rw [← hr]
    generalize bs (itoa (a : Int)) = ta at *
    generalize bs (itoa (b : Int)) = tb at *
    have HR := Lib.hid hr
    clear hr h0
    go_enter Tryz.func187, Tryz.ntmps187
    go_wp2_with fail
    refine (S1.out _).mono ?_
    rintro e w1 ⟨rfl, rfl⟩
    go_wp2_with fail
    refine (G1.out _).mono ?_
    rintro e w1 ⟨rfl, rfl⟩
    go_wp2_with fail
    refine (S2.out _).mono ?_
    rintro e w1 ⟨rfl, rfl⟩
    go_wp2_with fail
    refine (G2.out _).mono ?_
    rintro e w1 ⟨rfl, rfl⟩
    go_wp2_with fail
    go_loopg [0, 1] 0 (fun k u v wr => k = 0 ∧ u = .string ta ∧ v = .string tb ∧ wr = w1)
    case atStart => exact ⟨rfl, rfl, rfl, rfl⟩
    case round =>
      obtain ⟨rfl, rfl, rfl, rfl⟩ := hrel
      go_wp2_with fail
      refine (HB.out _).mono ?_
      rintro e w2 ⟨rfl, rfl⟩
      go_wp2_with fail
      go_loopg [5, 6] b (fun k u v wr => ∃ c d : Nat, k = d ∧ u = .int .i64 c ∧ v = .int .i64 d ∧ c < 1000000000000000000 ∧ d < 1000000000000000000 ∧ Aside (Nat.gcd c d = r ∧ Gr w2 wr))
      case atStart => exact ⟨a, b, rfl, rfl, rfl, hm, hn, HR.out.symm, Gr.refl _⟩
      case round =>
        obtain ⟨c, d, hk, rfl, rfl, hc, hd, A⟩ := hrel
        by_cases hd0 : d = 0
        · subst hd0
          have hg := A.out.1
          rw [Nat.gcd_zero_right] at hg
          subst hg
          have HO := Lib.hid (fun w => of1_c w (c : Int) (by omega) (by omega))
          have hG := A.out.2
          clear A
          go_wp2_with fail
          refine (HO.out _).mono ?_
          rintro e w3 ⟨rfl, hg3⟩
          go_wp2_with fail
          go_ret
          exact ⟨rfl, hG.trans hg3⟩
        · have ht : ((c : Nat) : Int).tmod (d : Int) = ((c % d : Nat) : Int) := by rw [Int.tmod_eq_emod_of_nonneg (by omega)]; rfl
          have hlt := Nat.mod_lt c (show 0 < d by omega)
          have A2 : Aside (Nat.gcd d (c % d) = r ∧ Gr w2 wr) := ⟨by rw [← A.out.1, Nat.gcd_comm c d]; exact (Nat.gcd_rec d c).symm ▸ Nat.gcd_comm _ _, A.out.2⟩
          clear A
          generalize c % d = cd at *
          have hdz : (d : Int) ≠ 0 := by omega
          go_wp2_with fail
          go_quiet (fail)
          go_wp2_with fail
          go_roundg cd
          case measure => omega
          case rel => exact ⟨d, cd, rfl, rfl, rfl, hd, by omega, A2.out.1, A2.out.2.drewN _⟩
end Go.Proofs.YtlmdpamehhcblaaGreatDoor
/- Contracts of the reference of whole: product, Times. -/
namespace Go.Proofs.YtlmdpamehhcblaaGreatDoor
open Go.RowKit
open Go.Lib (itoa decDigits)
open YtlmdpamehhcblaaGreatDoorD (mag minus isDig val natural Lim)

/-- The value of columns. -/
def cv : List Nat → Nat
  | [] => 0
  | c :: r => c * 10 ^ r.length + cv r
theorem cv_set : ∀ (l : List Nat) (i x : Nat) (h : i < l.length), cv (l.set i (l[i] + x)) = cv l + x * 10 ^ (l.length - (i + 1))
  | [], _, _, h => absurd h (by simp)
  | c :: r, 0, x, _ => by
    show (c + x) * 10 ^ r.length + cv r = c * 10 ^ r.length + cv r + x * 10 ^ (r.length + 1 - (0 + 1))
    rw [Nat.add_mul, show r.length + 1 - (0 + 1) = r.length by omega]
    omega
  | c :: r, i + 1, x, h => by
    have hr : i < r.length := by simpa using h
    have ih := cv_set r i x hr
    show c * 10 ^ (r.set i (r[i] + x)).length + cv (r.set i (r[i] + x)) = c * 10 ^ r.length + cv r + x * 10 ^ (r.length + 1 - (i + 1 + 1))
    rw [ih, List.length_set, show r.length + 1 - (i + 1 + 1) = r.length - (i + 1) by omega]
    omega
theorem cv_zero (n : Nat) : cv (List.replicate n 0) = 0 := by
  induction n with
  | zero => rfl
  | succ n ih => rw [List.replicate_succ]; show 0 * _ + cv _ = 0; rw [ih]; simp
theorem cv_drop {l : List Nat} {i : Nat} (h : i < l.length) : cv (l.drop i) = l[i] * 10 ^ (l.length - (i + 1)) + cv (l.drop (i + 1)) := by
  rw [List.drop_eq_getElem_cons h]
  show l[i] * 10 ^ (l.drop (i + 1)).length + _ = _
  rw [List.length_drop]
/-- What the first digits weigh. -/
def tk (A : List UInt8) (i : Nat) : Nat := val (A.take i) * 10 ^ (A.length - i)
theorem tk_zero (A : List UInt8) : tk A 0 = 0 := by unfold tk; rw [List.take_zero, YtlmdpamehhcblaaGreatDoorD.val_nil, Nat.zero_mul]
theorem tk_all (A : List UInt8) : tk A A.length = val A := by unfold tk; rw [List.take_length, Nat.sub_self]; simp
theorem tk_step {A : List UInt8} {i x : Nat} (h : i < A.length) (hx : A[i].toNat = 48 + x) : tk A (i + 1) = tk A i + x * 10 ^ (A.length - (i + 1)) := by
  unfold tk
  rw [val_step A i h, hx, show A.length - i = (A.length - (i + 1)) + 1 by omega, Nat.pow_succ, Nat.add_sub_cancel_left, Nat.add_mul, Nat.mul_comm 10, Nat.mul_assoc, Nat.mul_comm 10]
/-- A block of counts. -/
def RN (w : World) (g : Nat) (l : List Nat) : Prop := RV w g 3 (l.map fun n : Nat => Value.int .i64 (n : Int))
theorem RN.cell {w : World} {g : Nat} {l : List Nat} (h : RN w g l) (j : Nat) (hj : j < l.length) : w.cell? ⟨g, j, none⟩ = some (.int .i64 (l[j] : Nat)) := by
  rw [RV.cell h]; simp [hj]
theorem RN.fz {w : World} {g : Nat} {l : List Nat} (h : RN w g l) (j : Nat) : w.frozen? ⟨g, j, none⟩ = false := RV.fz h j
theorem RN.set {w : World} {g : Nat} {l : List Nat} (h : RN w g l) (j b : Nat) : RN (w.setCell ⟨g, j, none⟩ (.int .i64 (b : Int))) g (l.set j b) := by
  unfold RN at *
  rw [List.map_set]; exact RV.set h j _
theorem RN.gr {w w' : World} {g : Nat} {l : List Nat} (h : RN w g l) (k : Gr w w') : RN w' g l := RV.gr h k
theorem RN.drewN {w : World} {g : Nat} {l : List Nat} (h : RN w g l) (n : Nat) : RN (w.drewN n) g l := RV.drewN h n
theorem RV.far {w : World} {g : Nat} {t : TypeId} {xs : List Value} (h : RV w g t xs) {p : Addr} (hp : g ≠ p.block) (v : Value) : RV (w.setCell p v) g t xs := by
  unfold RV at *
  rw [heap_setCell_other w p g v hp]; exact h
theorem info3 : (Tryz.prog.info? 3).map (fun i => (i.zero, i.size, i.bytes)) = some (some (.int .i64 0), 1, 8) := by kernel_rfl
theorem make197 (w : World) (n : Nat) (hn : n ≤ 35184372088832) : (Instr.makeSlice 197 (.int .i64 (n : Int)) (.int .i64 (n : Int))).run Tryz.prog w = .ok (.slice (some ⟨w.heap.size, 0, none⟩) n n) (w.alloc (.cells (Array.replicate n (.int .i64 0)) 3)) := by
  obtain ⟨i, hi, hz, hs, hb⟩ := info_parts info3
  have h := run_make (P := Tryz.prog) w 197 3 i (.int .i64 0) Tryz.underlying197 hi hz .i64 .i64 n n (by omega) (Int.le_refl _) (by rw [hb]; omega) (by omega)
  rw [h, hs]
  have e : madeCells (Value.int .i64 0).cells ((n : Int).toNat * 1) = Array.replicate n (.int .i64 0) := by
    apply Array.toList_inj.1
    rw [Nat.mul_one, Int.toNat_natCast]
    show (madeCells #[Value.int .i64 0] n).toList = _
    rw [toList_madeCells_one, Array.toList_replicate]
  rw [e]
  simp
theorem made197 (w : World) (n : Nat) : RN (w.alloc (.cells (Array.replicate n (.int .i64 0)) 3)) w.heap.size (List.replicate n 0) := by
  have h := RV.new w 3 ((List.replicate n (0 : Nat)).map fun n : Nat => Value.int .i64 (n : Int))
  rw [show ((List.replicate n (0 : Nat)).map fun n : Nat => Value.int .i64 (n : Int)).toArray = Array.replicate n (.int .i64 0) by simp] at h
  exact h
/-- The columns, the first i rows of them done, and k products of the next. -/
def ColI (A B : List UInt8) (cols : List Nat) (i k x : Nat) : Prop :=
  cols.length = A.length + B.length ∧ cv cols = tk A i * val B + x * 10 ^ (A.length - (i + 1)) * tk B k ∧ ∀ c ∈ cols, c ≤ 81 * (i * B.length + k)
theorem col_start (A B : List UInt8) : ColI A B (List.replicate (A.length + B.length) 0) 0 0 0 := by
  refine ⟨by simp, by rw [cv_zero, tk_zero]; simp, fun c hc => ?_⟩
  rw [(List.mem_replicate.1 hc).2]; omega
theorem col_row {A B : List UInt8} {cols : List Nat} {i x y : Nat} (h : ColI A B cols i 0 y) : ColI A B cols i 0 x := by
  obtain ⟨h1, h2, h3⟩ := h
  refine ⟨h1, ?_, h3⟩
  rw [h2, tk_zero, Nat.mul_zero, Nat.mul_zero]
theorem col_next {A B : List UInt8} {cols : List Nat} {i x : Nat} (hi : i < A.length) (hx : A[i].toNat = 48 + x) (h : ColI A B cols i B.length x) : ColI A B cols (i + 1) 0 0 := by
  obtain ⟨h1, h2, h3⟩ := h
  refine ⟨h1, ?_, fun c hc => ?_⟩
  · rw [h2, tk_all, tk_step hi hx, tk_zero, Nat.mul_zero, Nat.add_mul]; rfl
  · have := h3 c hc
    rw [Nat.add_mul, Nat.one_mul]; omega
theorem col_step {A B : List UInt8} {cols : List Nat} {i k x y : Nat} (hi : i < A.length) (hk : k < B.length) (hx : x ≤ 9) (hy9 : y ≤ 9) (hy : B[k].toNat = 48 + y) (h : ColI A B cols i k x) (hl : i + k + 1 < cols.length) :
    ColI A B (cols.set (i + k + 1) (cols[i + k + 1] + x * y)) i (k + 1) x := by
  obtain ⟨h1, h2, h3⟩ := h
  refine ⟨by rw [List.length_set]; exact h1, ?_, fun c hc => ?_⟩
  · rw [cv_set _ _ _ hl, h2, tk_step hk hy, Nat.mul_add, h1]
    have e : A.length + B.length - (i + k + 1 + 1) = (A.length - (i + 1)) + (B.length - (k + 1)) := by omega
    rw [e, Nat.pow_add]
    generalize 10 ^ (A.length - (i + 1)) = P
    generalize 10 ^ (B.length - (k + 1)) = R
    have e2 : x * y * (P * R) = x * P * (y * R) := by
      rw [Nat.mul_assoc, Nat.mul_left_comm y, ← Nat.mul_assoc]
    omega
  · have hp : x * y ≤ 81 := Nat.le_trans (Nat.mul_le_mul hx hy9) (by decide)
    rcases List.mem_or_eq_of_mem_set hc with hc | rfl
    · have := h3 c hc; omega
    · have := h3 _ (List.getElem_mem hl); omega
/-- The carried digits from k on. -/
def OutI (cols : List Nat) (L : List UInt8) (c k : Nat) : Prop := (L.drop k).all isDig = true ∧ val (L.drop k) + c * 10 ^ (L.length - k) = cv (cols.drop k)
theorem out_start (cols : List Nat) (L : List UInt8) (h : cols.length = L.length) : OutI cols L 0 L.length := by
  refine ⟨by rw [List.drop_length]; rfl, ?_⟩
  rw [List.drop_length, List.drop_eq_nil_of_le (by omega), YtlmdpamehhcblaaGreatDoorD.val_nil]
  simp [cv]
theorem out_step {cols : List Nat} {L : List UInt8} {c i : Nat} (h : cols.length = L.length) (hi : i < L.length) (hI : OutI cols L c (i + 1)) :
    OutI cols (L.set i (UInt8.ofNat (48 + (c + cols[i]) % 10))) ((c + cols[i]) / 10) i := by
  obtain ⟨h1, h2⟩ := hI
  have hd10 : (c + cols[i]) % 10 < 10 := Nat.mod_lt _ (by decide)
  have eL : (L.set i (UInt8.ofNat (48 + (c + cols[i]) % 10))).drop i = UInt8.ofNat (48 + (c + cols[i]) % 10) :: L.drop (i + 1) := by
    rw [List.drop_eq_getElem_cons (by simpa using hi), List.getElem_set_self, List.drop_set_of_lt (by omega)]
  refine ⟨by rw [eL, List.all_cons, h1, YtlmdpamehhcblaaGreatDoorD.isDig_of hd10]; rfl, ?_⟩
  have hcd := cv_drop (show i < cols.length by omega)
  have hl : cols.length - (i + 1) = L.length - (i + 1) := by omega
  rw [hl] at hcd
  rw [eL, YtlmdpamehhcblaaGreatDoorD.val_cons, YtlmdpamehhcblaaGreatDoorD.dig_toNat hd10, List.length_drop, Nat.add_sub_cancel_left, List.length_set, hcd, ← h2]
  have hp : 10 ^ (L.length - i) = 10 * 10 ^ (L.length - (i + 1)) := by
    rw [show L.length - i = (L.length - (i + 1)) + 1 by omega, Nat.pow_succ, Nat.mul_comm]
  rw [hp]
  generalize 10 ^ (L.length - (i + 1)) = P at *
  generalize hs : c + cols[i] = s
  have e : (s % 10 + 10 * (s / 10)) * P = (c + cols[i]) * P := by rw [Nat.mod_add_div, hs]
  rw [Nat.add_mul, Nat.add_mul] at e
  have e2 : s / 10 * (10 * P) = 10 * (s / 10) * P := by rw [← Nat.mul_assoc, Nat.mul_comm (s / 10) 10]
  omega
theorem out_end {A B : List UInt8} {cols : List Nat} {L : List UInt8} {c x : Nat} (hA : A.all isDig = true) (hB : B.all isDig = true) (hL : L.length = A.length + B.length) (hc : ColI A B cols A.length 0 x) (h : OutI cols L c 0) :
    L.all isDig = true ∧ val L = val A * val B := by
  obtain ⟨h1, h2⟩ := h
  obtain ⟨_, h4, _⟩ := hc
  rw [List.drop_zero] at h1
  rw [List.drop_zero, List.drop_zero, Nat.sub_zero, h4, tk_all, tk_zero, Nat.mul_zero, Nat.add_zero] at h2
  refine ⟨h1, ?_⟩
  have l1 := YtlmdpamehhcblaaGreatDoorD.val_lt hA
  have l2 := YtlmdpamehhcblaaGreatDoorD.val_lt hB
  have l3 : val A * val B < 10 ^ L.length := by
    rw [hL, Nat.pow_add]
    exact Nat.mul_lt_mul'' l1 l2
  rcases Nat.eq_zero_or_pos c with rfl | hc
  · omega
  · have := Nat.mul_le_mul_right (10 ^ L.length) hc
    omega
set_option maxHeartbeats 8000000 in
set_option maxRecDepth 20000 in
theorem product1_c (w : World) (u v : Nat) (hu : (decDigits u).length ≤ 1200) (hv : (decDigits v).length ≤ 1200) :
    Calls Tryz.prog 210 #[.string (bs (decDigits u)), .string (bs (decDigits v))] w fun e w' => e = .returned (.string (bs (decDigits (u * v)))) ∧ Gr w w' := by
  have aA := YtlmdpamehhcblaaGreatDoorD.decDigits_all u
  have aB := YtlmdpamehhcblaaGreatDoorD.decDigits_all v
  have vA := YtlmdpamehhcblaaGreatDoorD.val_decDigits u
  have vB := YtlmdpamehhcblaaGreatDoorD.val_decDigits v
  have pA := List.length_pos_iff.2 (YtlmdpamehhcblaaGreatDoorD.decDigits_ne u)
  rw [← vA, ← vB]
  rw [vA, vB]
  have HEnd : (∀ (cols : List Nat) (L : List UInt8) (c x : Nat), L.length = (decDigits u).length + (decDigits v).length → ColI (decDigits u) (decDigits v) cols (decDigits u).length 0 x → OutI cols L c 0 → L.all isDig = true ∧ val L = u * v) := (fun cols L c x hL h1 h2 => by
    have := out_end aA aB hL h1 h2
    rwa [vA, vB] at this)
  have DA := Lib.hid (fun i hi => dig_of_all aA i hi)
  have DB := Lib.hid (fun i hi => dig_of_all aB i hi)
  obtain ⟨r, hr⟩ : ∃ r, r = u * v := ⟨_, rfl⟩
  rw [← hr] at HEnd ⊢
  have HEnd := Lib.hid HEnd
  clear vA vB hr aA aB
  obtain ⟨n, hn⟩ : ∃ n, n = (decDigits u).length + (decDigits v).length := ⟨_, rfl⟩
  rw [← hn] at HEnd
  have MK := Lib.hid (fun w => make197 w n (by omega))
  have MB := Lib.hid (fun w => make149 w n (by omega))
  have sA := bs_size (decDigits u)
  have sB := bs_size (decDigits v)
  have hsum : (((decDigits u).length : Int) + (decDigits v).length) = (n : Int) := by omega
  have HN := Lib.hid hn
  have hn1 : 1 ≤ n := by omega
  have hn2 : n ≤ 2400 := by omega
  clear hn
  generalize decDigits u = A at *
  generalize decDigits v = B at *
  have hbd : ∀ (cols : List Nat) (i k x : Nat), i ≤ A.length → k ≤ B.length → ColI A B cols i k x → ∀ c ∈ cols, c ≤ 200000000 := fun cols i k x hi hk h c hc => by
    have h1 := h.2.2 c hc
    have h2 : i * B.length ≤ 1200 * 1200 := Nat.mul_le_mul (by omega) hv
    omega
  have HBD := Lib.hid hbd
  clear hbd
  go_enter Tryz.func210, Tryz.ntmps210
  have mk := MK.out w
  go_wp2_with fail
  have RN0 := Lib.hid (made197 w n)
  have G0 := Lib.hid ((Gr.refl w).alloc (.cells (Array.replicate n (.int .i64 0)) 3))
  have hgl : w.heap.size < (w.alloc (.cells (Array.replicate n (.int .i64 0)) 3)).heap.size := by simp
  have HGL := Lib.hid hgl
  clear hgl mk MK
  generalize w.alloc (.cells (Array.replicate n (.int .i64 0)) 3) = w1 at *
  have HST := Lib.hid (show ColI A B (List.replicate n 0) 0 0 0 by rw [HN.out]; exact col_start A B)
  go_loopg [6] A.length (fun k i wr => ∃ j : Nat, k + j = A.length ∧ i = .int .i64 j ∧ Aside (∃ cols, ColI A B cols j 0 0 ∧ RN wr w.heap.size cols ∧ Gr w wr ∧ w.heap.size < wr.heap.size))
  case atStart => exact ⟨0, rfl, rfl, _, HST.out, RN0.out, G0.out, HGL.out⟩
  case round =>
    obtain ⟨j, hj, rfl, AS⟩ := hrel
    obtain ⟨m1, hm1⟩ : ∃ m1, m1 = gk := ⟨_, rfl⟩
    rw [← hm1] at hj
    by_cases hlt : j < A.length
    · obtain ⟨x, hx9, hx⟩ := DA.out j hlt
      have gx : ((bs A)[j]'(by omega)).toNat = 48 + x := hx
      have HX := Lib.hid hx
      clear hx
      have AS1 : Aside (∃ cols, ColI A B cols j 0 x ∧ RN wr w.heap.size cols ∧ Gr w wr ∧ w.heap.size < wr.heap.size) := by
        obtain ⟨cols, h1, h2⟩ := AS.out
        exact ⟨cols, col_row h1, h2⟩
      clear AS
      go_wp2_with fail
      go_loopg [7] B.length (fun k i wr => ∃ kk : Nat, k + kk = B.length ∧ i = .int .i64 kk ∧ Aside (∃ cols, ColI A B cols j kk x ∧ RN wr w.heap.size cols ∧ Gr w wr ∧ w.heap.size < wr.heap.size))
      case atStart => exact ⟨0, rfl, rfl, AS1.out⟩
      case round =>
        obtain ⟨kk, hkk, rfl, AI⟩ := hrel
        by_cases hl2 : kk < B.length
        · obtain ⟨y, hy9, hy⟩ := DB.out kk hl2
          have gy : ((bs B)[kk]'(by omega)).toNat = 48 + y := hy
          obtain ⟨cols, hC, hR0, hG0, hsz0⟩ := AI.out
          have hR : RN wr.drew w.heap.size cols := RV.drew hR0
          have hG : Gr w wr.drew := hG0.drew
          have hsz : w.heap.size < wr.drew.heap.size := hsz0
          have cm0 := hR0.cell (j + kk + 1) (by rw [hC.1]; omega)
          have hnn := HN.out
          have hlen : j + kk + 1 < cols.length := by rw [hC.1]; omega
          have cm := hR.cell (j + kk + 1) hlen
          have fm := hR.fz (j + kk + 1)
          have hcm := HBD.out cols j kk x (by omega) (by omega) hC _ (List.getElem_mem hlen)
          have hst := col_step hlt hl2 hx9 hy9 hy hC hlen
          obtain ⟨z, hz⟩ : ∃ z, z = x * y := ⟨_, rfl⟩
          have hz81 : z ≤ 81 := by rw [hz]; exact Nat.le_trans (Nat.mul_le_mul hx9 hy9) (by decide)
          have hzi : (x : Int) * (y : Int) = (z : Int) := by rw [hz, Int.natCast_mul]
          rw [← hz] at hst
          have hR2 := hR.set (j + kk + 1) (cols[j + kk + 1] + z)
          have hG2 := hG.setCell (p := ⟨w.heap.size, j + kk + 1, none⟩) (Nat.le_refl _) (.int .i64 ((cols[j + kk + 1] + z : Nat) : Int))
          generalize cols[j + kk + 1] = c at *
          have ecz : ((c + z : Nat) : Int) = (c : Int) + (z : Int) := by omega
          rw [ecz] at hR2 hG2
          have hin1 : (j : Int) + kk + 1 < n := by have := hC.1; omega
          have AI2 : Aside (∃ cols, ColI A B cols j (kk + 1) x ∧ RN (wr.drew.setCell ⟨w.heap.size, j + kk + 1, none⟩ (.int .i64 ((c : Int) + (z : Int)))) w.heap.size cols ∧ Gr w (wr.drew.setCell ⟨w.heap.size, j + kk + 1, none⟩ (.int .i64 ((c : Int) + (z : Int)))) ∧ w.heap.size < (wr.drew.setCell ⟨w.heap.size, j + kk + 1, none⟩ (.int .i64 ((c : Int) + (z : Int)))).heap.size) := ⟨_, hst, hR2, hG2, by simpa using hsz⟩
          have i1 : IntKind.i64.wrap ((j : Int) + kk) = j + kk := IntWalk.i64_in _ (by omega)
          have i2 : IntKind.i64.wrap ((j : Int) + kk + 1) = j + kk + 1 := IntWalk.i64_in _ (by omega)
          have i3 : IntKind.u8.wrap (48 + (x : Int) - 48) = x := by rw [show 48 + (x : Int) - 48 = x by omega]; exact IntWalk.u8_in _ (by omega)
          have i4 : IntKind.u8.wrap (48 + (y : Int) - 48) = y := by rw [show 48 + (y : Int) - 48 = y by omega]; exact IntWalk.u8_in _ (by omega)
          have i5 : IntKind.i64.wrap (z : Int) = z := IntWalk.i64_in _ (by omega)
          have i6 : IntKind.i64.wrap ((c : Int) + z) = c + z := IntWalk.i64_in _ (by omega)
          have i7 : IntKind.i64.wrap (x : Int) = x := IntWalk.i64_in _ (by omega)
          have i8 : IntKind.i64.wrap (y : Int) = y := IntWalk.i64_in _ (by omega)
          have hin0 : (0 : Int) ≤ (j : Int) + kk + 1 := by omega
          have i9 : ((j : Int) + kk + 1).toNat = j + kk + 1 := by omega
          clear AI hC hR hG hst hR2 hG2 hz hy hnn ecz hsz hlen hR0 hG0 hsz0
          go_wp2_with fail
          go_still_tail 20, (by kernel_rfl)
          change wpList _ _ _ _ _ wr.drew
          generalize wr.drew = wd at *
          go_wp2_with fail
          go_roundg (gk - 1)
          case measure => omega
          case rel => exact ⟨kk + 1, by omega, by go_num, AI2.out⟩
        · have hkb : kk = B.length := by omega
          subst hkb
          have AS2 : Aside (∃ cols, ColI A B cols (j + 1) 0 0 ∧ RN wr w.heap.size cols ∧ Gr w wr ∧ w.heap.size < wr.heap.size) := by
            obtain ⟨cols, h1, h2⟩ := AI.out
            exact ⟨cols, col_next hlt HX.out h1, h2⟩
          clear AI
          go_wp2_with fail
          go_roundg (m1 - 1)
          case measure => omega
          case rel => exact ⟨j + 1, by omega, by go_num, AS2.out⟩
    · have hja : j = A.length := by omega
      subst hja
      obtain ⟨cols, hC, hR, hG, hsz⟩ := AS.out
      have hcl : cols.length = n := by rw [hC.1]; exact HN.out.symm
      have HC := Lib.hid hC
      have HBc := Lib.hid (fun c hc => HBD.out cols A.length 0 0 (Nat.le_refl _) (Nat.zero_le _) hC c hc)
      have mk := MB.out wr
      clear AS hC DA DB HST RN0 G0 HGL HBD hj hlt
      go_wp2_with fail
      have RB0 := Lib.hid (made149 wr n)
      have hR1 := Lib.hid (hR.gr ((Gr.refl wr).alloc (.cells (Array.replicate n (bv 0)) 5)))
      have G1 := Lib.hid (hG.alloc (.cells (Array.replicate n (bv 0)) 5))
      have hgs := Lib.hid hG.size
      have HGG := Lib.hid hsz
      generalize wr.alloc (.cells (Array.replicate n (bv 0)) 5) = w3 at *
      generalize wr.heap.size = g at *
      clear mk MB hR hG
      go_loopg [9, 10] n (fun k c i wr => ∃ (L : List UInt8) (cc : Nat), i = .int .i64 ((k : Int) - 1) ∧ k ≤ n ∧ c = .int .i64 cc ∧ cc ≤ 200000000 ∧ Aside (L.length = n ∧ OutI cols L cc k ∧ RB wr g L ∧ RN wr w.heap.size cols ∧ Gr w wr))
      case atStart => exact ⟨List.replicate n 0, 0, by go_num, Nat.le_refl _, rfl, by omega, by simp, by have := out_start cols (List.replicate n 0) (by simp [hcl]); rwa [List.length_replicate] at this, RB0.out, hR1.out, G1.out⟩
      case round =>
        obtain ⟨L, cc, rfl, hk, rfl, hcc, AS⟩ := hrel
        by_cases h0 : gk = 0
        · subst h0
          obtain ⟨hL, hO, hrb, hrn, hG⟩ := AS.out
          obtain ⟨e1, e2⟩ := HEnd.out cols L cc 0 hL HC.out hO
          have HB := Lib.hid (fun w => bare1_c w L (by intro e; rw [e] at hL; simp at hL; omega) e1)
          rw [e2] at HB
          have cv := hrb.text (n := n) hL
          have hG := Lib.hid hG
          clear AS HEnd hrb hrn e1 e2 hL hO RB0 G1 hR1
          generalize bs L = Ls at *
          go_wp2_with fail
          refine (HB.out _).mono ?_
          rintro e w5 ⟨rfl, rfl⟩
          go_wp2_with fail
          go_ret
          exact ⟨rfl, hG.out⟩
        · obtain ⟨m, rfl⟩ : ∃ m, gk = m + 1 := ⟨gk - 1, by omega⟩
          obtain ⟨hL, hO, hrb, hrn, hG⟩ := AS.out
          have hst := out_step (hcl.trans hL.symm) (by omega : m < L.length) hO
          have hml : m < cols.length := by omega
          have cm := hrn.cell m hml
          have cb := hrb.cell m (by omega)
          have fb := hrb.fz m
          have hcb := HBc.out _ (List.getElem_mem hml)
          generalize cols[m] = c at *
          obtain ⟨s, hs⟩ : ∃ s, s = cc + c := ⟨_, rfl⟩
          have hsi : (cc : Int) + (c : Int) = (s : Int) := by omega
          rw [← hs] at hst
          obtain ⟨d, hd⟩ : ∃ d, d = s % 10 := ⟨_, rfl⟩
          obtain ⟨q, hq⟩ : ∃ q, q = s / 10 := ⟨_, rfl⟩
          rw [← hd, ← hq] at hst
          have hdi : (s : Int) % 10 = (d : Int) := by omega
          have hqi : (s : Int) / 10 = (q : Int) := by omega
          have hd9 : d ≤ 9 := by omega
          have hq2 : q ≤ 200000000 := by omega
          have hs2 : s ≤ 400000000 := by omega
          have hrb2 := hrb.set m (UInt8.ofNat (48 + d))
          rw [bv_dig hd9] at hrb2
          have hrn2 := RV.far (p := ⟨g, m, none⟩) hrn (fun e : w.heap.size = g => by have := HGG.out; omega) (.int .u8 (48 + (d : Int)))
          have hG2 := hG.setCell (p := ⟨g, m, none⟩) hgs.out (.int .u8 (48 + (d : Int)))
          have AS2 : Aside ((L.set m (UInt8.ofNat (48 + d))).length = n ∧ OutI cols (L.set m (UInt8.ofNat (48 + d))) q m ∧ RB (wr.setCell ⟨g, m, none⟩ (.int .u8 (48 + (d : Int)))) g (L.set m (UInt8.ofNat (48 + d))) ∧ RN (wr.setCell ⟨g, m, none⟩ (.int .u8 (48 + (d : Int)))) w.heap.size cols ∧ Gr w (wr.setCell ⟨g, m, none⟩ (.int .u8 (48 + (d : Int))))) := ⟨by rw [List.length_set]; exact hL, hst, hrb2, hrn2, hG2⟩
          generalize L.set m (UInt8.ofNat (48 + d)) = L2 at *
          clear AS hO hrb hrn hG hrb2 hG2 hrn2 hst HEnd RB0 G1 hR1 hs hd hq HBc
          go_wp2_with fail
          go_roundg m
          case measure => omega
          case rel => exact ⟨L2, q, by go_num, by omega, by go_num, hq2, AS2.out⟩
theorem itoa_len1 (n : Int) : (itoa n).length ≤ (decDigits n.natAbs).length + 1 := by
  unfold Lib.itoa
  split
  · simp
  · rename_i h; rw [show n.toNat = n.natAbs by omega]; omega
theorem itoa_mag_le (n : Int) : (decDigits n.natAbs).length ≤ (itoa n).length := by
  have := mag_le (itoa n)
  rwa [YtlmdpamehhcblaaGreatDoorD.mag_itoa] at this
theorem mul_len {k l u v : Nat} (hu : (decDigits u).length ≤ k) (hv : (decDigits v).length ≤ l) : u * v < 10 ^ (k + l) := by
  have a2 := Nat.lt_of_lt_of_le (pow_len u) (Nat.pow_le_pow_right (n := 10) (by decide) hu)
  have b2 := Nat.lt_of_lt_of_le (pow_len v) (Nat.pow_le_pow_right (n := 10) (by decide) hv)
  rw [Nat.pow_add]
  exact Nat.mul_lt_mul'' a2 b2
theorem mul_len2 {k l u v : Nat} (hu : (decDigits u).length ≤ k) (hv : (decDigits v).length ≤ l) (h : 0 < k) : (decDigits (u * v)).length ≤ k + l := by
  rw [YtlmdpamehhcblaaGreatDoorD.decDigits_len]
  exact (YtlmdpamehhcblaaGreatDoorD.nDigits_le_iff _ _ (by omega)).2 (mul_len hu hv)
theorem sign_mul (m n : Int) : (if (decide (m < 0) != decide (n < 0)) = true then -((m.natAbs * n.natAbs : Nat) : Int) else ((m.natAbs * n.natAbs : Nat) : Int)) = m * n := by
  rw [← Int.natAbs_mul]
  rcases Int.lt_trichotomy m 0 with hm | hm | hm
  · rcases Int.lt_trichotomy n 0 with hn | hn | hn
    · have h := Int.mul_pos_of_neg_of_neg hm hn
      rw [decide_eq_true hm, decide_eq_true hn, if_neg (by decide)]; omega
    · subst hn; simp
    · have h := Int.mul_neg_of_neg_of_pos hm hn
      rw [decide_eq_true hm, decide_eq_false (by omega), if_pos (by decide)]; omega
  · subst hm; simp
  · rcases Int.lt_trichotomy n 0 with hn | hn | hn
    · have h := Int.mul_neg_of_pos_of_neg hm hn
      rw [decide_eq_false (by omega), decide_eq_true hn, if_pos (by decide)]; omega
    · subst hn; simp
    · have h := Int.mul_pos hm hn
      rw [decide_eq_false (by omega), decide_eq_false (by omega), if_neg (by decide)]; omega
set_option maxHeartbeats 4000000 in
set_option maxRecDepth 20000 in
theorem times1_c (w : World) (m n : Int) (hm : (decDigits m.natAbs).length ≤ 1200) (hn : (decDigits n.natAbs).length ≤ 1200) :
    Calls Tryz.prog 143 #[.string (bs (itoa m)), .string (bs (itoa n))] w fun e w' => e = .returned (.string (bs (itoa (m * n)))) ∧ Gr w w' := by
  have HB := fun w => brief1_c w m n
  have S1 := Lib.hid (fun w => size1_i w m)
  have S2 := Lib.hid (fun w => size1_i w n)
  have B1 := Lib.hid (fun w => below1_i w m)
  have B2 := Lib.hid (fun w => below1_i w n)
  have HP := Lib.hid (fun w => product1_c w m.natAbs n.natAbs hm hn)
  have HG := fun w => signed1_c w (m.natAbs * n.natAbs) (decide (m < 0) != decide (n < 0)) (by have := mul_len2 hm hn (by decide); omega)
  rw [sign_mul] at HG
  have HG := Lib.hid HG
  have sm := bs_size (itoa m)
  have sn := bs_size (itoa n)
  have lm := itoa_len1 m
  have ln := itoa_len1 n
  by_cases h18 : m.natAbs < 1000000000000000000 ∧ n.natAbs < 1000000000000000000
  · rw [if_pos h18] at HB
    have HB := Lib.hid HB
    by_cases hl : (itoa m).length + (itoa n).length ≤ 18
    · have hp : (m * n).natAbs < 1000000000000000000 := by
        have h := mul_len (itoa_mag_le m) (itoa_mag_le n)
        rw [← Int.natAbs_mul] at h
        have h2 := Nat.lt_of_lt_of_le h (Nat.pow_le_pow_right (n := 10) (by decide) hl)
        simpa using h2
      have HO := Lib.hid (fun w => of1_c w (m * n) (by omega) (by omega))
      obtain ⟨z, hz⟩ : ∃ z, z = m * n := ⟨_, rfl⟩
      rw [← hz] at HO hp ⊢
      have hzi : m * n = z := hz.symm
      have z1 : -1000000000000000000 < z ∧ z < 1000000000000000000 := by omega
      obtain ⟨z1, z2⟩ := z1
      have lx : (itoa m).length ≤ 18 := by omega
      have ly : (itoa n).length ≤ 18 := by omega
      clear h18 hm hn HG HP lm ln hz hp
      generalize bs (itoa m) = x at *
      generalize bs (itoa n) = y at *
      go_enter Tryz.func143, Tryz.ntmps143
      go_wp2_with fail
      refine (HB.out _).mono ?_
      rintro e w1 ⟨rfl, rfl⟩
      go_wp2_with fail
      refine (HO.out _).mono ?_
      rintro e w2 ⟨rfl, hg⟩
      go_wp2_with fail
      go_ret
      exact ⟨rfl, hg⟩
    · have lx : (itoa m).length ≤ 1201 := by omega
      have ly : (itoa n).length ≤ 1201 := by omega
      clear h18 hm hn lm ln
      generalize bs (itoa m) = x at *
      generalize bs (itoa n) = y at *
      generalize bs (itoa (m * n)) = z at *
      generalize bs (decDigits (m.natAbs * n.natAbs)) = pq at *
      generalize bs (decDigits m.natAbs) = p at *
      generalize bs (decDigits n.natAbs) = q at *
      generalize decide (m < 0) = s at *
      generalize decide (n < 0) = t at *
      go_enter Tryz.func143, Tryz.ntmps143
      go_wp2_with fail
      refine (HB.out _).mono ?_
      rintro e w1 ⟨rfl, rfl⟩
      go_wp2_with fail
      refine (S1.out _).mono ?_
      rintro e w1 ⟨rfl, rfl⟩
      go_wp2_with fail
      refine (S2.out _).mono ?_
      rintro e w1 ⟨rfl, rfl⟩
      go_wp2_with fail
      refine (HP.out _).mono ?_
      rintro e w2 ⟨rfl, hg⟩
      go_wp2_with fail
      refine (B1.out _).mono ?_
      rintro e w3 ⟨rfl, rfl⟩
      go_wp2_with fail
      refine (B2.out _).mono ?_
      rintro e w3 ⟨rfl, rfl⟩
      go_wp2_with fail
      refine (HG.out _).mono ?_
      rintro e w3 ⟨rfl, rfl⟩
      go_wp2_with fail
      go_ret
      exact ⟨rfl, hg⟩
  · rw [if_neg h18] at HB
    have HB := Lib.hid HB
    clear h18 hm hn
    generalize bs (itoa m) = x at *
    generalize bs (itoa n) = y at *
    generalize bs (itoa (m * n)) = z at *
    generalize bs (decDigits (m.natAbs * n.natAbs)) = pq at *
    generalize bs (decDigits m.natAbs) = p at *
    generalize bs (decDigits n.natAbs) = q at *
    generalize decide (m < 0) = s at *
    generalize decide (n < 0) = t at *
    go_enter Tryz.func143, Tryz.ntmps143
    go_wp2_with fail
    refine (HB.out _).mono ?_
    rintro e w1 ⟨rfl, rfl⟩
    go_wp2_with fail
    refine (S1.out _).mono ?_
    rintro e w1 ⟨rfl, rfl⟩
    go_wp2_with fail
    refine (S2.out _).mono ?_
    rintro e w1 ⟨rfl, rfl⟩
    go_wp2_with fail
    refine (HP.out _).mono ?_
    rintro e w2 ⟨rfl, hg⟩
    go_wp2_with fail
    refine (B1.out _).mono ?_
    rintro e w3 ⟨rfl, rfl⟩
    go_wp2_with fail
    refine (B2.out _).mono ?_
    rintro e w3 ⟨rfl, rfl⟩
    go_wp2_with fail
    refine (HG.out _).mono ?_
    rintro e w3 ⟨rfl, rfl⟩
    go_wp2_with fail
    go_ret
    exact ⟨rfl, hg⟩
end Go.Proofs.YtlmdpamehhcblaaGreatDoor
/- Contracts of the reference of ratio: Split, Lowest, Over, crossed, Times, By, Order, Whole. -/
namespace Go.Proofs.YtlmdpamehhcblaaGreatDoor
open Go.RowKit
open Go.Lib (itoa decDigits)
open YtlmdpamehhcblaaGreatDoorD (rtext rjoin isDig val)

theorem get_47 (s : List UInt8) (j : Nat) (hj : j < (bs s).size) : ((((bs s)[j]'hj).toNat : Int) == 47) = decide (s[j]'(by rw [bs_size] at hj; exact hj) = 47) := by
  rw [Bool.eq_iff_iff, beq_iff_eq, decide_eq_true_iff]
  show (((s[j]'(by rw [bs_size] at hj; exact hj)).toNat : Int) = 47) ↔ _
  constructor
  · intro h
    exact UInt8.toNat_inj.1 (by show _ = (47 : UInt8).toNat; simp; omega)
  · intro h; rw [h]; rfl
set_option maxHeartbeats 1000000 in
theorem slash_none (w : World) (s : List UInt8) (h : (47 : UInt8) ∉ s) (hl : s.length ≤ 3000) : Calls Tryz.prog 198 #[.string (bs s)] w fun e w' => e = .returned (.int .i64 (-1)) ∧ w' = w := by
  have hsz := bs_size s
  have HC := Lib.hid (fun j hj => (get_47 s j hj).trans (decide_eq_false (fun e => h (by rw [← e]; exact List.getElem_mem _))))
  clear h
  go_enter Tryz.func198, Tryz.ntmps198
  go_wp2_with fail
  go_loopg [3] s.length (fun k i wr => ∃ j : Nat, k + j = s.length ∧ i = .int .i64 j ∧ wr = w)
  case atStart => exact ⟨0, rfl, rfl, rfl⟩
  case round =>
    obtain ⟨j, hj, rfl, rfl⟩ := hrel
    by_cases hlt : j < (bs s).size
    · have hc := HC.out j hlt
      generalize bs s = S at *
      go_wp2_with fail
      go_roundg (gk - 1)
      case measure => omega
      case rel => exact ⟨j + 1, by omega, by go_num, rfl⟩
    · go_wp2_with fail
      go_ret
      exact ⟨rfl, rfl⟩
set_option maxHeartbeats 1000000 in
theorem slash_some (w : World) (a b : List UInt8) (h : (47 : UInt8) ∉ a) (hl : (a ++ 47 :: b).length ≤ 3000) : Calls Tryz.prog 198 #[.string (bs (a ++ 47 :: b))] w fun e w' => e = .returned (.int .i64 a.length) ∧ w' = w := by
  have hsz := bs_size (a ++ 47 :: b)
  rw [List.length_append, List.length_cons] at hsz hl
  have HC := Lib.hid (fun j (hj : j < (bs (a ++ 47 :: b)).size) (hl : j < a.length) => (get_47 (a ++ 47 :: b) j hj).trans (decide_eq_false (fun e => h (by rw [List.getElem_append_left hl] at e; rw [← e]; exact List.getElem_mem _))))
  have HD := Lib.hid (fun (hj : a.length < (bs (a ++ 47 :: b)).size) => (get_47 (a ++ 47 :: b) a.length hj).trans (decide_eq_true (by simp)))
  clear h
  go_enter Tryz.func198, Tryz.ntmps198
  go_wp2_with fail
  go_loopg [3] a.length (fun k i wr => ∃ j : Nat, k + j = a.length ∧ i = .int .i64 j ∧ wr = w)
  case atStart => exact ⟨0, rfl, rfl, rfl⟩
  case round =>
    obtain ⟨j, hj, rfl, rfl⟩ := hrel
    have hlt : j < (bs (a ++ 47 :: b)).size := by omega
    by_cases hl : j < a.length
    · have hc := HC.out j hlt hl
      clear HC HD
      generalize bs (a ++ 47 :: b) = S at *
      go_wp2_with fail
      go_roundg (gk - 1)
      case measure => omega
      case rel => exact ⟨j + 1, by omega, by go_num, rfl⟩
    · have hja : j = a.length := by omega
      subst hja
      have hc := HD.out hlt
      clear HC HD
      generalize bs (a ++ 47 :: b) = S at *
      go_wp2_with fail
      go_ret
      exact ⟨rfl, rfl⟩
theorem take_bs (a b : List UInt8) : (bs (a ++ 47 :: b)).extract 0 a.length = bs a := by
  rw [bs_extract, List.drop_zero, Nat.sub_zero, List.take_left]
theorem drop_bs (a b : List UInt8) : (bs (a ++ 47 :: b)).extract (a.length + 1) (bs (a ++ 47 :: b)).size = bs b := by
  rw [bs_extract, bs_size]
  congr 1
  rw [List.take_of_length_le (by simp; omega), show a ++ 47 :: b = (a ++ [47]) ++ b by simp, List.drop_left' (by simp)]
theorem rtext_len1 (q : Rat) (h : q.den = 1) : rtext q = itoa q.num := YtlmdpamehhcblaaGreatDoorD.rtext_int h
def RetSplit (q : Rat) (w : World) (e : Ending) (w' : World) : Prop := e = .returned (.tuple #[.string (bs (itoa q.num)), .string (bs (itoa (q.den : Int)))]) ∧ Gr w w'
set_option maxHeartbeats 2000000 in
set_option maxRecDepth 20000 in
theorem split2_c (w : World) (q : Rat) (hl : (rtext q).length ≤ 3000) : Calls Tryz.prog 131 #[.string (bs (rtext q))] w (RetSplit q w) := by
  unfold RetSplit
  by_cases hd : q.den = 1
  · have e1 : bs (itoa (q.den : Int)) = { data := #[49] } := by
      rw [hd]
      show bs (itoa ((1 : Nat) : Int)) = _
      rw [YtlmdpamehhcblaaGreatDoorD.itoa_nat, YtlmdpamehhcblaaGreatDoorD.decDigits_1]; rfl
    rw [e1, YtlmdpamehhcblaaGreatDoorD.rtext_int hd]
    have HS := Lib.hid (fun w => slash_none w (itoa q.num) (YtlmdpamehhcblaaGreatDoorD.itoa_no47 _) (by rwa [YtlmdpamehhcblaaGreatDoorD.rtext_int hd] at hl))
    generalize bs (itoa q.num) = s at *
    go_enter Tryz.func131, Tryz.ntmps131
    go_wp2_with fail
    refine (HS.out _).mono ?_
    rintro e w1 ⟨rfl, rfl⟩
    go_wp2_with fail
    go_ret2
    exact ⟨rfl, Gr.refl _⟩
  · have e1 : rtext q = itoa q.num ++ 47 :: decDigits q.den := by unfold rtext; rw [if_neg hd]
    rw [e1] at hl ⊢
    rw [YtlmdpamehhcblaaGreatDoorD.itoa_nat]
    have HS := Lib.hid (fun w => slash_some w (itoa q.num) (decDigits q.den) (YtlmdpamehhcblaaGreatDoorD.itoa_no47 _) hl)
    have t1 := take_bs (itoa q.num) (decDigits q.den)
    have t2 := drop_bs (itoa q.num) (decDigits q.den)
    have sz := bs_size (itoa q.num ++ 47 :: decDigits q.den)
    rw [List.length_append, List.length_cons] at sz hl
    rw [sz] at t2
    have hb1 : ((itoa q.num).length : Int) ≤ (bs (itoa q.num ++ 47 :: decDigits q.den)).size := by omega
    have hb2 : ((itoa q.num).length : Int) + 1 ≤ (bs (itoa q.num ++ 47 :: decDigits q.den)).size := by omega
    have i1 : IntKind.i64.wrap (((itoa q.num).length : Int) + 1) = (itoa q.num).length + 1 := IntWalk.i64_in _ (by omega)
    have i2 : (((itoa q.num).length : Int) + 1).toNat = (itoa q.num).length + 1 := by omega
    have T1 := Lib.hid t1
    have T2 := Lib.hid t2
    clear t1 t2
    generalize bs (itoa q.num ++ 47 :: decDigits q.den) = S at *
    generalize bs (itoa q.num) = a at *
    generalize bs (decDigits q.den) = b at *
    generalize (itoa q.num).length = la at *
    go_enter Tryz.func131, Tryz.ntmps131
    go_wp2_with fail
    refine (HS.out _).mono ?_
    rintro e w1 ⟨rfl, rfl⟩
    go_wp2_with fail
    go_quiet (fail)
    go_wp2_with fail
    go_ret2
    exact ⟨by rw [← T1.out, ← T2.out]; simp, (Gr.refl _).drewN _⟩
theorem len18n {n : Nat} (h : n < 1000000000000000000) : (decDigits n).length ≤ 3000 := by
  have := (len18 (n : Int)).2 (by simpa using h)
  have e : ((n : Int)).natAbs = n := rfl
  rw [e] at this
  omega
theorem is1_dec (d : Nat) : ((bs (decDigits d)).toList == [49]) = decide (d = 1) := by
  rw [bs_toList, Bool.eq_iff_iff, beq_iff_eq, decide_eq_true_iff, YtlmdpamehhcblaaGreatDoorD.decDigits_eq_1]
set_option maxHeartbeats 400000 in
theorem lowest18_c (w : World) (n : Int) (d : Nat) (hn : n.natAbs < 1000000000000000000) (hd : d < 1000000000000000000) (h0 : d ≠ 0) :
    Calls Tryz.prog 109 #[.string (bs (itoa n)), .string (bs (itoa (d : Int)))] w (RetR (mkRat n d) w) := by
  unfold RetR
  have hg0 : 0 < Int.gcd n d := Int.gcd_pos_of_ne_zero_right _ (by omega)
  have hgd : Int.gcd n d ≤ d := Nat.le_of_dvd (by omega) (by
    have := Int.gcd_dvd_right n (d : Int)
    exact Int.natCast_dvd_natCast.1 this)
  have HS := fun w => shared18_c w n (d : Int) hn (by simpa using hd)
  have eg : Nat.gcd n.natAbs ((d : Int)).natAbs = Int.gcd n d := rfl
  rw [eg] at HS
  have HB := fun w => below1_i w (d : Int)
  rw [decide_eq_false (by omega)] at HB
  have P1 := Lib.hid (fun w => parted18_c w n (Int.gcd n d : Int) hn (by omega) (by omega))
  have P2 := fun w => parted18_c w (d : Int) (Int.gcd n d : Int) (by omega) (by omega) (by omega)
  have eq2 : (d : Int) / ((Int.gcd n d : Nat) : Int) = ((d / Int.gcd n d : Nat) : Int) := rfl
  rw [eq2, YtlmdpamehhcblaaGreatDoorD.itoa_nat (d / Int.gcd n d)] at P2
  have hlow := YtlmdpamehhcblaaGreatDoorD.lowest_eq n d h0
  unfold YtlmdpamehhcblaaGreatDoorD.rjoin at hlow
  have z := is1_dec (d / Int.gcd n d)
  have ln : (bs (itoa (n / ((Int.gcd n d : Nat) : Int)))).size ≤ 3000 := by
    have h1 : (n / ((Int.gcd n d : Nat) : Int)).natAbs ≤ n.natAbs := Int.natAbs_ediv_le_natAbs _ _
    have h2 := itoa_len1 (n / ((Int.gcd n d : Nat) : Int))
    have h3 := (len18 (n / ((Int.gcd n d : Nat) : Int))).2 (by omega)
    rw [bs_size]; omega
  have ld : (bs (decDigits (d / Int.gcd n d))).size ≤ 3000 := by
    have h1 : d / Int.gcd n d ≤ d := Nat.div_le_self _ _
    have h2 := len18n (show d / Int.gcd n d < 1000000000000000000 by omega)
    rw [bs_size]; exact h2
  have HS := Lib.hid HS; have HB := Lib.hid HB; have P2 := Lib.hid P2
  have hb : bs (rtext (mkRat n d)) = if d / Int.gcd n d = 1 then bs (itoa (n / ((Int.gcd n d : Nat) : Int))) else bs (itoa (n / ((Int.gcd n d : Nat) : Int))) ++ { data := #[47] } ++ bs (decDigits (d / Int.gcd n d)) := by
    rw [← hlow]
    by_cases h : d / Int.gcd n d = 1
    · rw [if_pos (YtlmdpamehhcblaaGreatDoorD.decDigits_eq_1.2 h), if_pos h]
    · rw [if_neg (fun e => h (YtlmdpamehhcblaaGreatDoorD.decDigits_eq_1.1 e)), if_neg h]
      show _ = bs _ ++ bs [47] ++ bs _
      rw [bs_append, bs_append, List.append_assoc]; rfl
  rw [hb]
  clear hb hlow eg eq2 hn hd h0 hg0 hgd
  generalize bs (itoa (n / ((Int.gcd n d : Nat) : Int))) = qn at *
  generalize bs (decDigits (d / Int.gcd n d)) = qd at *
  generalize bs (itoa (n % ((Int.gcd n d : Nat) : Int))) = rn at *
  generalize bs (itoa ((d : Int) % ((Int.gcd n d : Nat) : Int))) = rd at *
  generalize bs (itoa ((Int.gcd n d : Nat) : Int)) = gt at *
  generalize bs (itoa n) = x at *
  generalize bs (itoa (d : Int)) = y at *
  by_cases h1 : d / Int.gcd n d = 1
  · rw [decide_eq_true h1] at z
    rw [if_pos h1]
    clear h1
    go_enter Tryz.func109, Tryz.ntmps109
    go_wp2_with fail
    refine (HS.out _).mono ?_
    rintro e w1 ⟨rfl, hg1⟩
    go_wp2_with fail
    refine (HB.out _).mono ?_
    rintro e w2 ⟨rfl, rfl⟩
    go_wp2_with fail
    refine (P1.out _).mono ?_
    rintro e w3 ⟨rfl, hg3⟩
    go_wp2_with fail
    refine (P2.out _).mono ?_
    rintro e w4 ⟨rfl, hg4⟩
    go_wp2_with fail
    go_ret
    exact ⟨rfl, (hg1.trans hg3).trans hg4⟩
  · rw [decide_eq_false h1] at z
    rw [if_neg h1]
    clear h1
    go_enter Tryz.func109, Tryz.ntmps109
    go_wp2_with fail
    refine (HS.out _).mono ?_
    rintro e w1 ⟨rfl, hg1⟩
    go_wp2_with fail
    refine (HB.out _).mono ?_
    rintro e w2 ⟨rfl, rfl⟩
    go_wp2_with fail
    refine (P1.out _).mono ?_
    rintro e w3 ⟨rfl, hg3⟩
    go_wp2_with fail
    refine (P2.out _).mono ?_
    rintro e w4 ⟨rfl, hg4⟩
    go_wp2_with fail
    go_ret
    exact ⟨rfl, (hg1.trans hg3).trans hg4⟩
set_option maxHeartbeats 1000000 in
theorem over2_c (w : World) (n : Int) (d : Nat) (hn : n.natAbs < 1000000000000000000) (hd : d < 1000000000000000000) (h0 : d ≠ 0) :
    Calls Tryz.prog 40 #[.int .i64 n, .int .i64 d] w (RetR (mkRat n d) w) := by
  have O1 := Lib.hid (fun w => of1_c w n (by omega) (by omega))
  have O2 := Lib.hid (fun w => of1_c w (d : Int) (by omega) (by omega))
  have HL := Lib.hid (fun w => lowest18_c w n d hn hd h0)
  unfold RetR at *
  clear hn hd h0
  generalize bs (itoa n) = x at *
  generalize bs (itoa (d : Int)) = y at *
  generalize bs (rtext (mkRat n d)) = z at *
  go_enter Tryz.func40, Tryz.ntmps40
  go_wp2_with fail
  refine (O1.out _).mono ?_
  rintro e w1 ⟨rfl, hg1⟩
  go_wp2_with fail
  refine (O2.out _).mono ?_
  rintro e w2 ⟨rfl, hg2⟩
  go_wp2_with fail
  refine (HL.out _).mono ?_
  rintro e w3 ⟨rfl, hg3⟩
  go_wp2_with fail
  go_ret
  exact ⟨rfl, (hg1.trans hg2).trans hg3⟩
set_option maxHeartbeats 1000000 in
theorem whole2_c (w : World) (n : Int) (h0 : -9223372036854775808 < n) (h1 : n ≤ 9223372036854775807) : Calls Tryz.prog 91 #[.int .i64 n] w (RetR (n : Rat) w) := by
  have O1 := Lib.hid (fun w => of1_c w n h0 h1)
  unfold RetR
  rw [YtlmdpamehhcblaaGreatDoorD.rtext_ofInt]
  clear h0 h1
  generalize bs (itoa n) = x at *
  go_enter Tryz.func91, Tryz.ntmps91
  go_wp2_with fail
  refine (O1.out _).mono ?_
  rintro e w1 ⟨rfl, hg1⟩
  go_wp2_with fail
  go_ret
  exact ⟨rfl, hg1⟩
theorem new5' (w : World) (a b c d e : Value) (t : TypeId) : (w.alloc (.cells #[a, b, c, d, e] t)).cell? ⟨w.heap.size, 0, none⟩ = some a ∧ (w.alloc (.cells #[a, b, c, d, e] t)).cell? ⟨w.heap.size, 1, none⟩ = some b ∧ (w.alloc (.cells #[a, b, c, d, e] t)).cell? ⟨w.heap.size, 2, none⟩ = some c ∧ (w.alloc (.cells #[a, b, c, d, e] t)).cell? ⟨w.heap.size, 3, none⟩ = some d ∧ (w.alloc (.cells #[a, b, c, d, e] t)).cell? ⟨w.heap.size, 4, none⟩ = some e := by
  have h : (w.alloc (.cells #[a, b, c, d, e] t)).heap[w.heap.size]? = some (.cells #[a, b, c, d, e] t) := heap_alloc_new w _
  refine ⟨?_, ?_, ?_, ?_, ?_⟩ <;> (unfold World.cell?; rw [h]; rfl)
/-- The five products of two numbers' parts. -/
structure Cross (w : World) (g : Nat) (a b : Rat) : Prop where
  c0 : w.cell? ⟨g, 0, none⟩ = some (.string (bs (itoa (a.num * (b.den : Int)))))
  c1 : w.cell? ⟨g, 1, none⟩ = some (.string (bs (itoa (b.num * (a.den : Int)))))
  c2 : w.cell? ⟨g, 2, none⟩ = some (.string (bs (itoa ((a.den : Int) * (b.den : Int)))))
  c3 : w.cell? ⟨g, 3, none⟩ = some (.string (bs (itoa (a.num * b.num))))
  c4 : w.cell? ⟨g, 4, none⟩ = some (.string (bs (itoa ((a.den : Int) * b.num))))
theorem Cross.gr {w w' : World} {g : Nat} {a b : Rat} (h : Cross w g a b) (k : Gr w w') : Cross w' g a b :=
  ⟨cell_gr k h.c0, cell_gr k h.c1, cell_gr k h.c2, cell_gr k h.c3, cell_gr k h.c4⟩
/-- Parts of at most 1200 digits. -/
structure P12 (q : Rat) : Prop where
  n : (decDigits q.num.natAbs).length ≤ 1200
  d : (decDigits q.den).length ≤ 1200
theorem P12.l {q : Rat} (h : P12 q) : (rtext q).length ≤ 3000 := by
  have h1 := h.n
  have h2 := h.d
  have h3 := itoa_len1 q.num
  unfold rtext
  split
  · omega
  · rw [List.length_append, List.length_cons]; omega
theorem P12.dn {q : Rat} (h : P12 q) : (decDigits ((q.den : Int)).natAbs).length ≤ 1200 := h.d
theorem P12.small {q : Rat} (h1 : q.num.natAbs < 1000000000000000000) (h2 : q.den < 1000000000000000000) : P12 q := by
  refine ⟨?_, ?_⟩
  · have := (len18 q.num).2 h1; omega
  · have := (len18 (q.den : Int)).2 (by simpa using h2)
    have e : ((q.den : Int)).natAbs = q.den := rfl
    rw [e] at this
    omega
def RetCross (a b : Rat) (w : World) (e : Ending) (w' : World) : Prop := ∃ g, e = .returned (.slice (some ⟨g, 0, none⟩) 5 5) ∧ Gr w w' ∧ Cross w' g a b
set_option maxHeartbeats 1000000 in
theorem crossed2_c (w : World) (a b : Rat) (ha : P12 a) (hb : P12 b) : Calls Tryz.prog 166 #[.string (bs (rtext a)), .string (bs (rtext b))] w (RetCross a b w) := by
  have S1 := Lib.hid (fun w => split2_c w a ha.l)
  have S2 := Lib.hid (fun w => split2_c w b hb.l)
  have T0 := Lib.hid (fun w => times1_c w a.num (b.den : Int) ha.n hb.dn)
  have T1 := Lib.hid (fun w => times1_c w b.num (a.den : Int) hb.n ha.dn)
  have T2 := Lib.hid (fun w => times1_c w (a.den : Int) (b.den : Int) ha.dn hb.dn)
  have T3 := Lib.hid (fun w => times1_c w a.num b.num ha.n hb.n)
  have T4 := Lib.hid (fun w => times1_c w (a.den : Int) b.num ha.dn hb.n)
  have HN : ∀ (w : World) (t : TypeId), Cross (w.alloc (.cells #[.string (bs (itoa (a.num * (b.den : Int)))), .string (bs (itoa (b.num * (a.den : Int)))), .string (bs (itoa ((a.den : Int) * (b.den : Int)))), .string (bs (itoa (a.num * b.num))), .string (bs (itoa ((a.den : Int) * b.num)))] t)) w.heap.size a b := fun w t => by
    obtain ⟨k0, k1, k2, k3, k4⟩ := new5' w (.string (bs (itoa (a.num * (b.den : Int))))) (.string (bs (itoa (b.num * (a.den : Int))))) (.string (bs (itoa ((a.den : Int) * (b.den : Int))))) (.string (bs (itoa (a.num * b.num)))) (.string (bs (itoa ((a.den : Int) * b.num)))) t
    exact ⟨k0, k1, k2, k3, k4⟩
  have HN := Lib.hid HN
  unfold RetSplit at S1 S2
  unfold RetCross
  clear ha hb
  go_enter Tryz.func166, Tryz.ntmps166
  go_wp2_with fail
  refine (S1.out _).mono ?_
  rintro e w1 ⟨rfl, hg1⟩
  go_wp2_with fail
  refine (S2.out _).mono ?_
  rintro e w2 ⟨rfl, hg2⟩
  have G2 := hg1.trans hg2
  clear hg1 hg2
  go_wp2_with fail
  refine (T0.out _).mono ?_
  rintro e w3 ⟨rfl, hg3⟩
  have G3 := G2.trans hg3
  clear hg3 G2
  go_wp2_with fail
  refine (T1.out _).mono ?_
  rintro e w4 ⟨rfl, hg4⟩
  have G4 := G3.trans hg4
  clear hg4 G3
  go_wp2_with fail
  refine (T2.out _).mono ?_
  rintro e w5 ⟨rfl, hg5⟩
  have G5 := G4.trans hg5
  clear hg5 G4
  go_wp2_with fail
  refine (T3.out _).mono ?_
  rintro e w6 ⟨rfl, hg6⟩
  have G6 := G5.trans hg6
  clear hg6 G5
  go_wp2_with fail
  refine (T4.out _).mono ?_
  rintro e w7 ⟨rfl, hg7⟩
  have G7 := G6.trans hg7
  clear hg7 G6
  go_wp2_with fail
  go_ret
  exact ⟨_, rfl, G7.alloc _, HN.out w7 55⟩
set_option maxHeartbeats 1000000 in
theorem order2_c (w : World) (a b : Rat) (ha : P12 a) (hb : P12 b) : Calls Tryz.prog 167 #[.string (bs (rtext a)), .string (bs (rtext b))] w fun e w' => e = .returned (.int .i64 (a.num * b.den - b.num * a.den).sign) ∧ Gr w w' := by
  have HC := Lib.hid (fun w => crossed2_c w a b ha hb)
  have l1 := mul_len2 ha.n hb.d (by decide)
  have l2 := mul_len2 hb.n ha.d (by decide)
  have HO := Lib.hid (fun w => order1_c w (a.num * (b.den : Int)) (b.num * (a.den : Int)) (by rw [Int.natAbs_mul]; exact Nat.le_trans l1 (by decide)) (by rw [Int.natAbs_mul]; exact Nat.le_trans l2 (by decide)))
  unfold RetCross at HC
  clear ha hb l1 l2
  generalize (a.num * (b.den : Int) - b.num * (a.den : Int)).sign = sg at *
  go_enter Tryz.func167, Tryz.ntmps167
  go_wp2_with fail
  refine (HC.out _).mono ?_
  rintro e w1 ⟨g, rfl, hg1, hc⟩
  have c0 := hc.c0
  have c1 := hc.c1
  have HG1 := Lib.hid hg1
  clear hc hg1
  generalize bs (itoa (a.num * (b.den : Int))) = x at *
  generalize bs (itoa (b.num * (a.den : Int))) = y at *
  go_wp2_with fail
  go_region_held3 (fun w' => w'.cell? ⟨g, 0, none⟩ = some (.string x) ∧ w'.cell? ⟨g, 1, none⟩ = some (.string y))
    (first | exact ⟨c0, c1⟩ | exact ⟨cell_gr hg5 c0, cell_gr hg5 c1⟩)
    ((go_at_call 203; refine (HO.out _).mono ?_; rintro e w5 ⟨rfl, hg5⟩))
  all_goals (
    go_wp2_with fail
    go_ret
    exact ⟨rfl, by first | exact HG1.out.drew.trans hg5 | exact HG1.out.trans hg5⟩)
set_option maxHeartbeats 1000000 in
theorem times2_c (w : World) (a b : Rat) (ha : P12 a) (hb : P12 b) (hp : (a.num * b.num).natAbs < 1000000000000000000) (hd : a.den * b.den < 1000000000000000000) : Calls Tryz.prog 82 #[.string (bs (rtext a)), .string (bs (rtext b))] w (RetR (a * b) w) := by
  have HC := Lib.hid (fun w => crossed2_c w a b ha hb)
  have HO := fun w => lowest18_c w (a.num * b.num) (a.den * b.den) hp hd (Nat.mul_ne_zero a.den_nz b.den_nz)
  rw [← YtlmdpamehhcblaaGreatDoorD.mul_mk, Int.natCast_mul] at HO
  have HO := Lib.hid HO
  clear hp hd
  unfold RetCross at HC
  unfold RetR at HO ⊢
  clear ha hb
  generalize bs (rtext (a * b)) = z at *
  go_enter Tryz.func82, Tryz.ntmps82
  go_wp2_with fail
  refine (HC.out _).mono ?_
  rintro e w1 ⟨g, rfl, hg1, hc⟩
  have c0 := hc.c3
  have c1 := hc.c2
  have HG1 := Lib.hid hg1
  clear hc hg1
  generalize bs (itoa (a.num * b.num)) = x at *
  generalize bs (itoa ((a.den : Int) * (b.den : Int))) = y at *
  go_wp2_with fail
  go_region_held3 (fun w' => w'.cell? ⟨g, 3, none⟩ = some (.string x) ∧ w'.cell? ⟨g, 2, none⟩ = some (.string y))
    (first | exact ⟨c0, c1⟩ | exact ⟨cell_gr hg5 c0, cell_gr hg5 c1⟩)
    ((go_at_call 109; refine (HO.out _).mono ?_; rintro e w5 ⟨rfl, hg5⟩))
  all_goals (
    go_wp2_with fail
    go_ret
    exact ⟨rfl, by first | exact HG1.out.drew.trans hg5 | exact HG1.out.trans hg5⟩)
set_option maxHeartbeats 1000000 in
theorem by2_c (w : World) (a b : Rat) (ha : P12 a) (hb : P12 b) (h0 : 0 < b.num) (hp : (a.num * (b.den : Int)).natAbs < 1000000000000000000) (hd : a.den * b.num.natAbs < 1000000000000000000) : Calls Tryz.prog 90 #[.string (bs (rtext a)), .string (bs (rtext b))] w (RetR (mkRat (a.num * (b.den : Int)) (a.den * b.num.natAbs)) w) := by
  have HC := Lib.hid (fun w => crossed2_c w a b ha hb)
  have HO := fun w => lowest18_c w (a.num * (b.den : Int)) (a.den * b.num.natAbs) hp hd (Nat.mul_ne_zero a.den_nz (by omega))
  rw [Int.natCast_mul, show ((b.num.natAbs : Nat) : Int) = b.num by omega] at HO
  have HO := Lib.hid HO
  clear hp hd h0
  unfold RetCross at HC
  unfold RetR at HO ⊢
  clear ha hb
  generalize bs (rtext (mkRat (a.num * (b.den : Int)) (a.den * b.num.natAbs))) = z at *
  go_enter Tryz.func90, Tryz.ntmps90
  go_wp2_with fail
  refine (HC.out _).mono ?_
  rintro e w1 ⟨g, rfl, hg1, hc⟩
  have c0 := hc.c0
  have c1 := hc.c4
  have HG1 := Lib.hid hg1
  clear hc hg1
  generalize bs (itoa (a.num * (b.den : Int))) = x at *
  generalize bs (itoa ((a.den : Int) * b.num)) = y at *
  go_wp2_with fail
  go_region_held3 (fun w' => w'.cell? ⟨g, 0, none⟩ = some (.string x) ∧ w'.cell? ⟨g, 4, none⟩ = some (.string y))
    (first | exact ⟨c0, c1⟩ | exact ⟨cell_gr hg5 c0, cell_gr hg5 c1⟩)
    ((go_at_call 109; refine (HO.out _).mono ?_; rintro e w5 ⟨rfl, hg5⟩))
  all_goals (
    go_wp2_with fail
    go_ret
    exact ⟨rfl, by first | exact HG1.out.drew.trans hg5 | exact HG1.out.trans hg5⟩)
end Go.Proofs.YtlmdpamehhcblaaGreatDoor
