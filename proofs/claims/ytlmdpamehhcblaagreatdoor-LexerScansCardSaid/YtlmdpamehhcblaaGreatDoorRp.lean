import Derived.Test.YtlmdpamehhcblaaGreatDoorWs
import Derived.Test.YtlmdpamehhcblaaGreatDoorPa
/- Contracts of package ratio: cut, joined, Check. -/
namespace Go.Proofs.YtlmdpamehhcblaaGreatDoor
open Go.RowKit
open Go.Lib (itoa decDigits)
open YtlmdpamehhcblaaGreatDoorD (rtext rjoin cutc canon)

/-- A number's numerator and denominator, as they stand, and whether the latter does. -/
def rcut (l : List UInt8) : List UInt8 × List UInt8 × Bool := ((YtlmdpamehhcblaaGreatDoorD.cutc 47 l).1, if (YtlmdpamehhcblaaGreatDoorD.cutc 47 l).2.2 then (YtlmdpamehhcblaaGreatDoorD.cutc 47 l).2.1 else [49], (YtlmdpamehhcblaaGreatDoorD.cutc 47 l).2.2)
set_option maxHeartbeats 1000000 in
theorem cut_c (w : World) (he : Env w) (l : List UInt8) (hl : l.length < 4294967281) :
    Calls Tryz.prog 101 #[.string (bs l)] w fun e w' => e = .returned (.tuple #[.string (bs (rcut l).1), .string (bs (rcut l).2.1), .bool (rcut l).2.2]) ∧ Gr w w' := by
  have HC := Cut_c w he l [47] hl
  rw [YtlmdpamehhcblaaGreatDoorD.cut_eq] at HC
  unfold rcut
  have H := Lib.hid HC
  clear HC hl
  generalize YtlmdpamehhcblaaGreatDoorD.cutc 47 l = c at *
  obtain ⟨n, d, ok⟩ := c
  cases ok <;> simp only [Bool.false_eq_true, if_false, if_true] at H ⊢ <;> generalize bs n = n at * <;> generalize bs d = d at * <;> generalize bs l = l at *
  all_goals (
    go_enter Tryz.func101, Tryz.ntmps101
    go_wp2_with fail
    refine H.out.mono ?_
    rintro e w1 ⟨rfl, hg⟩
    go_wp2_with fail
    go_ret3
    exact ⟨rfl, hg⟩)
theorem isOne (l : List UInt8) : ((bs l).toList == [49]) = decide (l = [49]) := by rw [bs_toList, Bool.eq_iff_iff, beq_iff_eq, decide_eq_true_iff]
set_option maxHeartbeats 1000000 in
theorem joined_c (w : World) (n d : List UInt8) (hl : n.length + d.length ≤ 9223372036854775806) : Calls Tryz.prog 186 #[.string (bs n), .string (bs d)] w fun e w' => e = .returned (.string (bs (rjoin n d))) ∧ w' = w := by
  unfold rjoin
  have h1 := isOne d
  have hsz : (bs n ++ bs [47]).size = n.length + 1 := by rw [bs_append, bs_size]; simp
  rw [← bs_size n, ← bs_size d] at hl
  rw [← bs_size n] at hsz
  have hsz0 : (bs n ++ { data := #[47] }).size = (bs n).size + 1 := hsz
  by_cases h : d = [49]
  · rw [if_pos h]
    rw [decide_eq_true h] at h1
    clear h
    generalize bs d = d at *
    go_enter Tryz.func186, Tryz.ntmps186
    go_wp2_with fail
    go_ret
    exact ⟨rfl, rfl⟩
  · rw [if_neg h]
    rw [decide_eq_false h] at h1
    have h2 : bs n ++ bs [47] ++ bs d = bs (n ++ 47 :: d) := by rw [bs_append, bs_append]; simp
    rw [← h2]
    clear h h2
    generalize bs d = d at *
    generalize bs n = n at *
    go_enter Tryz.func186, Tryz.ntmps186
    go_wp2_with fail
    go_ret
    exact ⟨rfl, rfl⟩
/-- Whether a text is a rational number's. -/
def isR (l : List UInt8) : Prop := ∃ q : Rat, l = rtext q
open Classical in
/-- What ratio.Check answers. -/
noncomputable def rchk (l : List UInt8) : Int :=
  if chk (rcut l).1 = 3 ∨ chk (rcut l).2.1 = 3 then 3 else if chk (rcut l).1 ≠ 0 ∨ chk (rcut l).2.1 ≠ 0 then 11 else if isR l then 0 else 3
theorem chk_or (s : List UInt8) : chk s = 0 ∨ chk s = 3 ∨ chk s = 11 := by unfold chk; split <;> (try split) <;> simp
theorem nDigits_lt {u : Nat} (h : Lib.nDigits u ≤ 1024) : u < YtlmdpamehhcblaaGreatDoorD.Lim := by
  rw [← YtlmdpamehhcblaaGreatDoorD.limE_eq] at h
  exact (YtlmdpamehhcblaaGreatDoorD.nDigits_le_iff u YtlmdpamehhcblaaGreatDoorD.limE (by rw [YtlmdpamehhcblaaGreatDoorD.limE_eq]; omega)).1 h
theorem chk_zero {s : List UInt8} (h : chk s = 0) : ∃ n : Int, s = itoa n ∧ n.natAbs < YtlmdpamehhcblaaGreatDoorD.Lim := by
  unfold chk at h
  split at h
  · rename_i hc
    obtain ⟨n, rfl⟩ := (YtlmdpamehhcblaaGreatDoorD.canon_iff s).1 hc
    split at h
    · omega
    · rename_i hl
      rw [YtlmdpamehhcblaaGreatDoorD.mag_itoa, YtlmdpamehhcblaaGreatDoorD.decDigits_len] at hl
      exact ⟨n, rfl, nDigits_lt (by omega)⟩
  · omega
theorem rcut_parts {l : List UInt8} (n d : Int) (hw : (rcut l).2.2 = true) (h1 : (rcut l).1 = itoa n) (h2 : (rcut l).2.1 = itoa d) : isR l ↔ 0 < (d - 1).sign ∧ Nat.gcd n.natAbs d.natAbs = 1 := by
  rcases YtlmdpamehhcblaaGreatDoorD.cutc_spec 47 l with ⟨hm, ht, he, hn⟩ | ⟨hm, he⟩
  · unfold rcut at h1 h2
    rw [ht, if_pos rfl] at h2
    dsimp only at h1 h2
    have e : l = itoa n ++ 47 :: itoa d := by rw [← h1, ← h2]; exact he
    constructor
    · rintro ⟨q, hq⟩
      have hc := YtlmdpamehhcblaaGreatDoorD.cutc_rtext q
      rw [← hq] at hc
      split at hc
      · rw [hc] at ht; simp at ht
      · rename_i hd
        rw [hc] at h1 h2
        have e1 := YtlmdpamehhcblaaGreatDoorD.itoa_inj h1
        have e2 : (q.den : Int) = d := YtlmdpamehhcblaaGreatDoorD.itoa_inj (by rw [YtlmdpamehhcblaaGreatDoorD.itoa_nat]; exact h2)
        have hz := q.den_nz
        subst e1
        rw [← e2]
        refine ⟨?_, q.reduced⟩
        rw [Int.sign_pos_iff]
        omega
    · rintro ⟨hs, hg⟩
      rw [Int.sign_pos_iff] at hs
      refine ⟨⟨n, d.natAbs, by omega, hg⟩, ?_⟩
      unfold rtext
      rw [if_neg (by show ¬ d.natAbs = 1; omega), e, ← YtlmdpamehhcblaaGreatDoorD.itoa_nat, show ((d.natAbs : Nat) : Int) = d by omega]
  · unfold rcut at hw
    rw [he] at hw; simp at hw
theorem rcut_plain {l : List UInt8} (n : Int) (hw : (rcut l).2.2 = false) (h1 : (rcut l).1 = itoa n) : isR l := by
  rcases YtlmdpamehhcblaaGreatDoorD.cutc_spec 47 l with ⟨hm, ht, he, hn⟩ | ⟨hm, he⟩
  · unfold rcut at hw
    rw [ht] at hw; simp at hw
  · unfold rcut at h1
    rw [he] at h1
    dsimp only at h1
    exact ⟨n, by rw [h1, YtlmdpamehhcblaaGreatDoorD.rtext_ofInt]⟩
theorem rcut_le (l : List UInt8) (h : 1 ≤ l.length) : (rcut l).1.length ≤ l.length ∧ (rcut l).2.1.length ≤ l.length := by
  rcases YtlmdpamehhcblaaGreatDoorD.cutc_spec 47 l with ⟨hm, ht, he, hn⟩ | ⟨hm, he⟩
  · unfold rcut
    have hl := congrArg List.length he
    rw [List.length_append, List.length_cons] at hl
    rw [ht, if_pos rfl]
    dsimp only
    omega
  · unfold rcut
    rw [he]
    simp [h]
set_option maxHeartbeats 4000000 in
theorem RCheck_c (w : World) (he : Env w) (l : List UInt8) (hl : l.length < 4294967281) : Calls Tryz.prog 176 #[.string (bs l)] w (RetE (rchk l) w) := by
  have hlen : (rcut l).1.length ≤ 4294967281 ∧ (rcut l).2.1.length ≤ 4294967281 := by
    cases l with
    | nil => exact ⟨by decide, by decide⟩
    | cons c r => have := rcut_le (c :: r) (by simp); omega
  have HC := Lib.hid (cut_c w he l hl)
  have H1 := Lib.hid (fun w => Check_c w (rcut l).1 (by omega))
  have H2 := Lib.hid (fun w => Check_c w (rcut l).2.1 (by omega))
  have HE := Lib.hid he
  clear hlen hl he
  unfold RetE at H1 H2 ⊢
  have o1 := chk_or (rcut l).1
  have o2 := chk_or (rcut l).2.1
  by_cases hz : chk (rcut l).1 = 0 ∧ chk (rcut l).2.1 = 0
  · obtain ⟨z1, z2⟩ := hz
    rw [z1] at H1
    rw [z2] at H2
    obtain ⟨n, e1, l1⟩ := chk_zero z1
    obtain ⟨d, e2, l2⟩ := chk_zero z2
    have hr0 : isR l → rchk l = 0 := by
      intro hP
      unfold rchk
      rw [if_neg (by rw [z1, z2]; decide), if_neg (by rw [z1, z2]; decide), if_pos hP]
    have hr3 : ¬ isR l → rchk l = 3 := by
      intro hP
      unfold rchk
      rw [if_neg (by rw [z1, z2]; decide), if_neg (by rw [z1, z2]; decide), if_neg hP]
    cases hw : (rcut l).2.2 with
    | false =>
      have e : rchk l = 0 := hr0 (rcut_plain n hw e1)
      rw [e]
      rw [hw] at HC
      clear o1 o2 z1 z2 hr0 hr3 e hw
      generalize bs (rcut l).1 = s1 at *
      generalize bs (rcut l).2.1 = s2 at *
      generalize bs l = s at *
      go_enter Tryz.func176, Tryz.ntmps176
      go_wp2_with fail
      refine HC.out.mono ?_
      rintro e w1 ⟨rfl, hg⟩
      go_wp2_with fail
      refine (H1.out _).mono ?_
      rintro e w2 ⟨rfl, hg1⟩
      go_wp2_with fail
      refine (H2.out _).mono ?_
      rintro e w3 ⟨rfl, hg2⟩
      go_wp2_with fail
      go_ret
      exact ⟨rfl, (hg.trans hg1).trans hg2⟩
    | true =>
      have hri := rcut_parts n d hw e1 e2
      have HO := Lib.hid (fun w => WCompare_c w d 1 l2 (by have := YtlmdpamehhcblaaGreatDoorD.lim_big; show 1 < _; omega))
      have HG := Lib.hid (fun w he => Gcd_c w he n d l1 l2)
      unfold RetN at HO
      unfold RetI at HG
      have bo := sign_bd (d - 1)
      obtain ⟨b1, b2⟩ := bo
      have i1 : itoa 1 = [49] := by decide +kernel
      have hone : ((bs (itoa (Nat.gcd n.natAbs d.natAbs : Nat))).toList == [49]) = decide (Nat.gcd n.natAbs d.natAbs = 1) := by
        rw [bs_toList, Bool.eq_iff_iff, beq_iff_eq, decide_eq_true_iff, ← i1]
        exact ⟨fun h => by have := YtlmdpamehhcblaaGreatDoorD.itoa_inj h; omega, fun h => by rw [h]; rfl⟩
      rw [i1] at HO
      rw [hri] at hr0 hr3
      generalize rchk l = r at *
      rw [hw] at HC
      rw [e1, e2] at HC
      rw [e1] at H1
      rw [e2] at H2
      clear hri hw l1 l2 z1 z2 o1 o2 e1 e2 i1
      generalize (d - 1).sign = so at *
      by_cases hp : so ≤ 0
      · have hr := hr3 (by omega)
        subst hr
        clear hone hr0 hr3
        generalize bs (itoa (Nat.gcd n.natAbs d.natAbs : Nat)) = sg at *
        generalize bs (itoa n) = s1 at *
        generalize bs (itoa d) = s2 at *
        generalize bs l = s at *
        go_enter Tryz.func176, Tryz.ntmps176
        go_wp2_with fail
        refine HC.out.mono ?_
        rintro e w1 ⟨rfl, hg⟩
        go_wp2_with fail
        refine (H1.out _).mono ?_
        rintro e w2 ⟨rfl, hg1⟩
        go_wp2_with fail
        refine (H2.out _).mono ?_
        rintro e w3 ⟨rfl, hg2⟩
        go_wp2_with fail
        refine (HO.out _).mono ?_
        rintro e w4 ⟨rfl, hg3⟩
        go_wp2_with fail
        refine (HG.out _ ((((HE.out.gr hg).gr hg1).gr hg2).gr hg3)).mono ?_
        rintro e w5 ⟨rfl, hg4⟩
        go_wp2_with fail
        go_ret
        exact ⟨rfl, (((hg.trans hg1).trans hg2).trans hg3).trans hg4⟩
      · have hnone : ((bs (itoa (Nat.gcd n.natAbs d.natAbs : Nat))).toList != [49]) = !decide (Nat.gcd n.natAbs d.natAbs = 1) := by rw [← hone]; rfl
        by_cases h1 : Nat.gcd n.natAbs d.natAbs = 1
        · have hr := hr0 ⟨by omega, h1⟩
          subst hr
          rw [decide_eq_true h1] at hone hnone
          clear h1 hr0 hr3
          generalize bs (itoa (Nat.gcd n.natAbs d.natAbs : Nat)) = sg at *
          generalize bs (itoa n) = s1 at *
          generalize bs (itoa d) = s2 at *
          generalize bs l = s at *
          go_enter Tryz.func176, Tryz.ntmps176
          go_wp2_with fail
          refine HC.out.mono ?_
          rintro e w1 ⟨rfl, hg⟩
          go_wp2_with fail
          refine (H1.out _).mono ?_
          rintro e w2 ⟨rfl, hg1⟩
          go_wp2_with fail
          refine (H2.out _).mono ?_
          rintro e w3 ⟨rfl, hg2⟩
          go_wp2_with fail
          refine (HO.out _).mono ?_
          rintro e w4 ⟨rfl, hg3⟩
          go_wp2_with fail
          refine (HG.out _ ((((HE.out.gr hg).gr hg1).gr hg2).gr hg3)).mono ?_
          rintro e w5 ⟨rfl, hg4⟩
          go_wp2_with fail
          go_ret
          exact ⟨rfl, (((hg.trans hg1).trans hg2).trans hg3).trans hg4⟩
        · have hr := hr3 (fun x => h1 x.2)
          subst hr
          rw [decide_eq_false h1] at hone hnone
          clear h1 hr0 hr3
          generalize bs (itoa (Nat.gcd n.natAbs d.natAbs : Nat)) = sg at *
          generalize bs (itoa n) = s1 at *
          generalize bs (itoa d) = s2 at *
          generalize bs l = s at *
          go_enter Tryz.func176, Tryz.ntmps176
          go_wp2_with fail
          refine HC.out.mono ?_
          rintro e w1 ⟨rfl, hg⟩
          go_wp2_with fail
          refine (H1.out _).mono ?_
          rintro e w2 ⟨rfl, hg1⟩
          go_wp2_with fail
          refine (H2.out _).mono ?_
          rintro e w3 ⟨rfl, hg2⟩
          go_wp2_with fail
          refine (HO.out _).mono ?_
          rintro e w4 ⟨rfl, hg3⟩
          go_wp2_with fail
          refine (HG.out _ ((((HE.out.gr hg).gr hg1).gr hg2).gr hg3)).mono ?_
          rintro e w5 ⟨rfl, hg4⟩
          go_wp2_with fail
          go_ret
          exact ⟨rfl, (((hg.trans hg1).trans hg2).trans hg3).trans hg4⟩
  · generalize hr : rchk l = r
    unfold rchk at hr
    generalize chk (rcut l).1 = c1 at *
    generalize chk (rcut l).2.1 = c2 at *
    generalize bs (rcut l).1 = s1 at *
    generalize bs (rcut l).2.1 = s2 at *
    generalize (rcut l).2.2 = ok at *
    rcases o1 with rfl | rfl | rfl <;> rcases o2 with rfl | rfl | rfl <;> first | (exact absurd ⟨rfl, rfl⟩ hz) | skip
    all_goals (
      simp at hr
      subst hr
      clear hz
      generalize bs l = s at *
      go_enter Tryz.func176, Tryz.ntmps176
      go_wp2_with fail
      refine HC.out.mono ?_
      rintro e w1 ⟨rfl, hg⟩
      go_wp2_with fail
      refine (H1.out _).mono ?_
      rintro e w2 ⟨rfl, hg1⟩
      go_wp2_with fail
      refine (H2.out _).mono ?_
      rintro e w3 ⟨rfl, hg2⟩
      go_wp2_with fail
      go_ret
      exact ⟨rfl, (hg.trans hg1).trans hg2⟩)
end Go.Proofs.YtlmdpamehhcblaaGreatDoor
/- Contracts of package ratio: sums. -/
namespace Go.Proofs.YtlmdpamehhcblaaGreatDoor
open Go.RowKit
open Go.Lib (itoa decDigits)
open YtlmdpamehhcblaaGreatDoorD (rtext rjoin cutc canon)

/-- A keeper of the first error, which has seen none. -/
def S0 (w : World) (g : Nat) : Prop := w.heap[g]? = some (.cells #[.int .i64 0] 126 (0, 0))
theorem S0.cell {w : World} {g : Nat} (h : S0 w g) : w.cell? ⟨g, 0, none⟩ = some (.int .i64 0) := by unfold World.cell?; rw [h]; rfl
theorem S0.thaw {w : World} {g : Nat} (h : S0 w g) : w.frozen? ⟨g, 0, none⟩ = false := by unfold World.frozen?; rw [h]; rfl
theorem S0.lt {w : World} {g : Nat} (h : S0 w g) : g < w.heap.size := (Array.getElem?_eq_some_iff.1 h).1
theorem S0.gr {w w' : World} {g : Nat} (h : S0 w g) (k : Gr w w') : S0 w' g := by unfold S0; rw [k.b.block g h.lt]; exact h
theorem S0.set {w : World} {g : Nat} (h : S0 w g) : w.setCell ⟨g, 0, none⟩ (.int .i64 0) = w := by
  unfold World.setCell
  have : w.heap.modify g (fun | .cells c elem frozen => .cells (if (none : Option Nat).isSome then c else c.setIfInBounds 0 (.int .i64 0)) elem frozen | o => o) = w.heap := by
    apply Array.ext_getElem?
    intro i
    rw [Array.getElem?_modify]
    split
    · rename_i e; subst e
      unfold S0 at h
      rw [h]; rfl
    · rfl
  exact congrArg (fun x => { w with heap := x }) this
theorem S0.new (w : World) : S0 (w.alloc (.cells #[.int .i64 0] 126 (0, 0))) w.heap.size := by
  unfold S0 World.alloc; simp
/-- A text of an integer. -/
def RetT (n : Int) (w : World) (e : Ending) (w' : World) : Prop := e = .returned (.string (bs (itoa n))) ∧ Gr w w'
/-- A function of the program's own, entered by a call. -/
def Ent (k : Nat) : Prop := ∀ args w, (callFunc k args).run Tryz.prog w = .ok (.enter k args) w
theorem ent_of {k : Nat} {fn : Func} {c : Code} (hf : Tryz.prog.funcs[k]? = some fn) (hname : (fn.name == "runtime.NumGoroutine") = false) (hb : fn.body = some c) : Ent k := by
  intro args w
  have h1 : fn.name ≠ "runtime.NumGoroutine" := by simpa using hname
  simp [callFunc, hf, h1, hb]
set_option maxHeartbeats 1000000 in
set_option maxRecDepth 20000 in
theorem do_c (w : World) (g k : Nat) (hk : Ent k) (hs : S0 w g) (a b r : Int) (ho : ∀ w', Gr w w' → Calls Tryz.prog k #[.string (bs (itoa a)), .string (bs (itoa b))] w' (RetI r w')) :
    Calls Tryz.prog 175 #[.pointer (some ⟨g, 0, none⟩), .func (.func k) #[] #[], .string (bs (itoa a)), .string (bs (itoa b))] w (RetT r w) := by
  have HO := Lib.hid ho
  have HS := Lib.hid hs
  have c0 := hs.cell
  clear hs ho
  unfold RetI at HO
  unfold RetT
  generalize bs (itoa a) = a at *
  generalize bs (itoa b) = b at *
  generalize bs (itoa r) = r at *
  go_enter Tryz.func175, Tryz.ntmps175
  go_wp2_with fail
  rw [hk]
  go_wp2_with fail
  refine (HO.out _ (Gr.refl _)).mono ?_
  rintro e w1 ⟨rfl, hg⟩
  have c1 := (HS.out.gr hg).cell
  have f1 := (HS.out.gr hg).thaw
  go_wp2_with fail
  go_ret
  exact ⟨rfl, by rw [(HS.out.gr hg).set]; exact hg⟩
theorem ent113 : Ent 113 := ent_of Tryz.func113 rfl rfl
theorem ent137 : Ent 137 := ent_of Tryz.func137 rfl rfl
theorem ent184 : Ent 184 := ent_of Tryz.func184 rfl rfl
/-- The product of a list. -/
def ip (l : List Int) : Int := l.foldl (· * ·) 1
theorem ip_snoc (l : List Int) (j : Nat) (h : j < l.length) : ip (l.take (j + 1)) = ip (l.take j) * l.getD j 0 := by
  unfold ip
  rw [List.take_add_one, List.getElem?_eq_getElem h, Option.toList_some, List.foldl_append, List.getD_eq_getElem?_getD, List.getElem?_eq_getElem h]
  rfl
set_option maxHeartbeats 1000000 in
set_option maxRecDepth 20000 in
theorem mul_c (w : World) (he : Env w) (g h c : Nat) (hs : S0 w g) (l : List Int) (hl : IntsAt w h 0 l) (hn : l.length ≤ 9223372036854775807)
    (hb : ∀ n ∈ l, n.natAbs < YtlmdpamehhcblaaGreatDoorD.Lim) (hp : ∀ j, (ip (l.take j)).natAbs < YtlmdpamehhcblaaGreatDoorD.Lim) :
    Calls Tryz.prog 98 #[.pointer (some ⟨g, 0, none⟩), .slice (some ⟨h, 0, none⟩) l.length c] w (RetT (ip l) w) := by
  have HL := Lib.hid hl
  have HB := Lib.hid hb
  have HP := Lib.hid hp
  have HS := Lib.hid hs
  have HE := Lib.hid he
  have e0 : itoa 1 = [49] := by decide +kernel
  clear hl hb hp hs he
  unfold RetT
  go_enter Tryz.func98, Tryz.ntmps98
  go_wp2_with fail
  go_loopg [5, 13] l.length (fun k o i wr => ∃ j : Nat, k + j = l.length ∧ i = .int .i64 j ∧ o = .string (bs (itoa (ip (l.take j)))) ∧ Aside (Gr w wr))
  case atStart => exact ⟨0, rfl, rfl, by show Value.string (bs [49]) = _; rw [← e0]; rfl, Gr.refl w⟩
  case round =>
    obtain ⟨j, hj, rfl, rfl, A⟩ := hrel
    have HJ := Lib.hid hj; clear hj
    by_cases hlt : j < l.length
    · have hcc := (HL.out.gr A.out) j hlt
      rw [Nat.zero_add] at hcc
      have hmem : l.getD j 0 ∈ l := by rw [List.getD_eq_getElem?_getD, List.getElem?_eq_getElem hlt]; exact List.getElem_mem hlt
      have hsn := ip_snoc l j hlt
      have hd := Lib.hid (fun w1 (k : Gr w w1) => do_c w1 g _ ent113 (HS.out.gr k) (ip (l.take j)) (l.getD j 0) (ip (l.take (j + 1))) (fun w2 k2 => by
        rw [hsn]
        exact Mul_c w2 ((HE.out.gr k).gr k2) _ _ (HP.out j) (HB.out _ hmem) (by rw [← hsn]; exact HP.out (j + 1))))
      unfold RetT at hd
      clear hmem hsn
      generalize bs (itoa (l.getD j 0)) = s at *
      generalize bs (itoa (ip (l.take j))) = o at *
      go_wp2_with fail
      refine (hd.out _ A.out).mono ?_
      rintro e w1 ⟨rfl, hg⟩
      have A2 : Aside (Gr w w1) := A.out.trans hg
      clear A hg hcc
      go_wp2_with fail
      go_roundg (gk - 1)
      case measure => have := HJ.out; omega
      case rel => exact ⟨j + 1, by have := HJ.out; omega, by go_num, rfl, A2.out⟩
    · have : ip (l.take j) = ip l := by rw [List.take_of_length_le (by omega)]
      rw [this]
      clear this
      go_wp2_with fail
      go_ret
      exact ⟨rfl, A.out⟩
theorem itoa_no45 (u : Nat) : Lib.hasPrefix (itoa (u : Int)) [45] = false := by
  have h := YtlmdpamehhcblaaGreatDoorD.minus_itoa (u : Int)
  unfold YtlmdpamehhcblaaGreatDoorD.minus at h
  rw [decide_eq_false (by omega)] at h
  unfold Lib.hasPrefix
  cases hl : itoa (u : Int) with
  | nil => rfl
  | cons c r =>
    rw [hl] at h
    simp at h
    simp [List.isPrefixOf]
    exact fun x => h x.symm
/-- A text of a rational number. -/
def RetR (q : Rat) (w : World) (e : Ending) (w' : World) : Prop := e = .returned (.string (bs (rtext q))) ∧ Gr w w'
theorem gcd_eq (n : Int) (d : Nat) : Nat.gcd n.natAbs (d : Int).natAbs = Int.gcd n d := rfl
set_option maxHeartbeats 1000000 in
set_option maxRecDepth 20000 in
theorem lowest_c (w : World) (he : Env w) (g : Nat) (hs : S0 w g) (n : Int) (d : Nat) (hn : n.natAbs < YtlmdpamehhcblaaGreatDoorD.Lim) (hd : d < YtlmdpamehhcblaaGreatDoorD.Lim) (h0 : d ≠ 0) :
    Calls Tryz.prog 108 #[.pointer (some ⟨g, 0, none⟩), .string (bs (itoa n)), .string (bs (itoa (d : Int)))] w (RetR (mkRat n d) w) := by
  have hg0 : 0 < Int.gcd n d := Nat.pos_of_ne_zero (fun x => h0 (by have := Int.gcd_eq_zero_iff.1 x; omega))
  have hgl : (Int.gcd n d : Int).natAbs < YtlmdpamehhcblaaGreatDoorD.Lim := by
    have : Int.gcd n d ≤ d := Nat.le_of_dvd (by omega) (by have := Int.gcd_dvd_right (a := n) (b := (d : Int)); exact Int.natCast_dvd_natCast.1 this)
    show Int.gcd n d < _
    omega
  have dv1 : ((Int.gcd n d : Nat) : Int) ∣ n := Int.gcd_dvd_left ..
  have dv2 : ((Int.gcd n d : Nat) : Int) ∣ (d : Int) := Int.gcd_dvd_right ..
  have q1 := quo_lim hn (by omega : (0 : Int) < (Int.gcd n d : Nat)) (.inr dv1)
  have q2 := quo_lim (m := (d : Int)) hd (by omega : (0 : Int) < (Int.gcd n d : Nat)) (.inr dv2)
  have D1 := Lib.hid (fun w1 (k : Gr w w1) => do_c w1 g _ ent184 (hs.gr k) n d (Int.gcd n d : Nat) (fun w2 k2 => Gcd_c w2 ((he.gr k).gr k2) n d hn hd))
  have D2 := Lib.hid (fun w1 (k : Gr w w1) => do_c w1 g _ ent137 (hs.gr k) n (Int.gcd n d : Nat) (n / (Int.gcd n d : Nat)) (fun w2 k2 => Quo_c w2 ((he.gr k).gr k2) n _ hn hgl (by omega) (.inr dv1)))
  have D3 := Lib.hid (fun w1 (k : Gr w w1) => do_c w1 g _ ent137 (hs.gr k) d (Int.gcd n d : Nat) (d / (Int.gcd n d : Nat)) (fun w2 k2 => Quo_c w2 ((he.gr k).gr k2) d _ hd hgl (by omega) (.inr dv2)))
  have HP := Lib.hid (fun w => by have := HasPrefix_c w (itoa (d : Int)) [45]; rw [itoa_no45] at this; exact this : ∀ w, Calls Tryz.prog 65 #[.string (bs (itoa (d : Int))), .string (bs [45])] w fun e w' => e = .returned (.bool false) ∧ w' = w)
  have HJ := Lib.hid (fun w => by
    have := joined_c w (itoa (n / (Int.gcd n d : Nat))) (itoa ((d : Int) / (Int.gcd n d : Nat))) (by have h1 := itoa_len_le q1; have h2 := itoa_len_le q2; omega)
    rw [show ((d : Int) / (Int.gcd n d : Nat)) = ((d / Int.gcd n d : Nat) : Int) from rfl, YtlmdpamehhcblaaGreatDoorD.itoa_nat, YtlmdpamehhcblaaGreatDoorD.lowest_eq n d h0] at this
    rw [show ((d : Int) / (Int.gcd n d : Nat)) = ((d / Int.gcd n d : Nat) : Int) from rfl, YtlmdpamehhcblaaGreatDoorD.itoa_nat]
    exact this : ∀ w, Calls Tryz.prog 186 #[.string (bs (itoa (n / (Int.gcd n d : Nat)))), .string (bs (itoa ((d : Int) / (Int.gcd n d : Nat))))] w fun e w' => e = .returned (.string (bs (rtext (mkRat n d)))) ∧ w' = w)
  have HS := Lib.hid hs
  clear hs q1 q2 dv1 dv2 hgl hg0 h0 hn hd he
  unfold RetT at D1 D2 D3
  unfold RetR
  generalize bs (rtext (mkRat n d)) = r at *
  generalize bs (itoa (n / (Int.gcd n d : Nat))) = n' at *
  generalize bs (itoa ((d : Int) / (Int.gcd n d : Nat))) = d' at *
  generalize bs (itoa (Int.gcd n d : Nat)) = gt at *
  generalize bs (itoa n) = sn at *
  generalize bs (itoa (d : Int)) = sd at *
  go_enter Tryz.func108, Tryz.ntmps108
  go_wp2_with fail
  refine (D1.out _ (Gr.refl _)).mono ?_
  rintro e w1 ⟨rfl, hg1⟩
  have c1 := (HS.out.gr hg1).cell
  go_wp2_with fail
  refine (HP.out _).mono ?_
  rintro e w2 ⟨rfl, rfl⟩
  go_wp2_with fail
  refine (D2.out _ hg1).mono ?_
  rintro e w2 ⟨rfl, hg2⟩
  go_wp2_with fail
  refine (D3.out _ (hg1.trans hg2)).mono ?_
  rintro e w3 ⟨rfl, hg3⟩
  go_wp2_with fail
  refine (HJ.out _).mono ?_
  rintro e w4 ⟨rfl, rfl⟩
  go_wp2_with fail
  go_ret
  exact ⟨rfl, (hg1.trans hg2).trans hg3⟩
end Go.Proofs.YtlmdpamehhcblaaGreatDoor
/- Contracts of package ratio: Make, Of, Whole, Parts, checks. -/
namespace Go.Proofs.YtlmdpamehhcblaaGreatDoor
open Go.RowKit
open Go.Lib (itoa decDigits)
open YtlmdpamehhcblaaGreatDoorD (rtext rjoin cutc canon Q)

/-- A rational number and no error. -/
def RetRQ (q : Rat) (w : World) (e : Ending) (w' : World) : Prop := e = .returned (.tuple #[.string (bs (rtext q)), .int .i64 0]) ∧ Gr w w'
theorem rcut_rtext (q : Rat) : (rcut (rtext q)).1 = itoa q.num ∧ (rcut (rtext q)).2.1 = itoa (q.den : Int) := by
  unfold rcut
  rw [YtlmdpamehhcblaaGreatDoorD.cutc_rtext]
  by_cases h : q.den = 1
  · rw [if_pos h, h]
    exact ⟨rfl, by show [49] = itoa ((1 : Nat) : Int); rw [YtlmdpamehhcblaaGreatDoorD.itoa_nat, YtlmdpamehhcblaaGreatDoorD.decDigits_1]⟩
  · rw [if_neg h]
    exact ⟨rfl, by rw [YtlmdpamehhcblaaGreatDoorD.itoa_nat]; rfl⟩
theorem rtext_len {q : Rat} (h : Q q) : (rtext q).length ≤ 2051 := by
  have h1 := itoa_len_le h.ln
  have h2 := itoa_len_le (n := (q.den : Int)) h.ld
  rw [YtlmdpamehhcblaaGreatDoorD.itoa_nat] at h2
  unfold rtext
  split
  · omega
  · rw [List.length_append, List.length_cons]; omega
theorem cutq_c (w : World) (he : Env w) (q : Rat) (h : Q q) :
    ∃ b, Calls Tryz.prog 101 #[.string (bs (rtext q))] w fun e w' => e = .returned (.tuple #[.string (bs (itoa q.num)), .string (bs (itoa (q.den : Int))), .bool b]) ∧ Gr w w' := by
  have := cut_c w he (rtext q) (by have := rtext_len h; omega)
  rw [(rcut_rtext q).1, (rcut_rtext q).2] at this
  exact ⟨_, this⟩
theorem rchk_rtext {q : Rat} (h : Q q) : rchk (rtext q) = 0 := by
  unfold rchk
  rw [(rcut_rtext q).1, (rcut_rtext q).2, chk_itoa h.ln, chk_itoa (n := (q.den : Int)) h.ld, if_neg (by decide), if_neg (by decide), if_pos ⟨q, rfl⟩]
theorem Checkq_c (w : World) (he : Env w) (q : Rat) (h : Q q) : Calls Tryz.prog 176 #[.string (bs (rtext q))] w (RetE 0 w) := by
  have := RCheck_c w he (rtext q) (by have := rtext_len h; omega)
  rwa [rchk_rtext h] at this
/-- A slice of rational numbers' texts in memory. -/
def RatsAt (w : World) (g off : Nat) (l : List Rat) : Prop := ∀ j, j < l.length → w.cell? ⟨g, off + j, none⟩ = some (.string (bs (rtext (l.getD j 0))))
theorem RatsAt.gr {w w' : World} {g off : Nat} {l : List Rat} (h : RatsAt w g off l) (k : Gr w w') : RatsAt w' g off l := fun j hj => cell_gr k (h j hj)
set_option maxHeartbeats 1000000 in
theorem checks_c (w : World) (he : Env w) (g c : Nat) (l : List Rat) (hl : RatsAt w g 0 l) (hn : l.length ≤ 9223372036854775807) (hb : ∀ n ∈ l, Q n) :
    Calls Tryz.prog 100 #[.slice (some ⟨g, 0, none⟩) l.length c] w (RetE 0 w) := by
  have HL := Lib.hid hl
  have HB := Lib.hid hb
  have HE := Lib.hid he
  clear hl hb he
  go_enter Tryz.func100, Tryz.ntmps100
  go_wp2_with fail
  go_loopg [8] l.length (fun k i wr => ∃ j : Nat, k + j = l.length ∧ i = .int .i64 j ∧ Aside (Gr w wr))
  case atStart => exact ⟨0, rfl, rfl, Gr.refl w⟩
  case round =>
    obtain ⟨j, hj, rfl, A⟩ := hrel
    have HJ := Lib.hid hj; clear hj
    by_cases hlt : j < l.length
    · have hc := (HL.out.gr A.out) j hlt
      rw [Nat.zero_add] at hc
      have hmem : l.getD j 0 ∈ l := by rw [List.getD_eq_getElem?_getD, List.getElem?_eq_getElem hlt]; exact List.getElem_mem hlt
      have hck := Lib.hid (fun w he => Checkq_c w he (l.getD j 0) (HB.out _ hmem))
      clear hmem
      generalize bs (rtext (l.getD j 0)) = s at *
      go_wp2_with fail
      refine (hck.out _ (HE.out.gr A.out)).mono ?_
      rintro e w1 ⟨rfl, hg⟩
      have A2 : Aside (Gr w w1) := A.out.trans hg
      clear A hg hc
      go_wp2_with fail
      go_roundg (gk - 1)
      case measure => have := HJ.out; omega
      case rel => exact ⟨j + 1, by have := HJ.out; omega, by go_num, A2.out⟩
    · go_wp2_with fail
      go_ret
      exact ⟨rfl, A.out⟩
theorem checks2_c (w : World) (he : Env w) (g : Nat) (a b : Rat) (h0 : w.cell? ⟨g, 0, none⟩ = some (.string (bs (rtext a)))) (h1 : w.cell? ⟨g, 1, none⟩ = some (.string (bs (rtext b)))) (ha : Q a) (hb : Q b) :
    Calls Tryz.prog 100 #[.slice (some ⟨g, 0, none⟩) 2 2] w (RetE 0 w) :=
  checks_c w he g 2 [a, b] (fun j hj => by
    match j, hj with
    | 0, _ => exact h0
    | 1, _ => exact h1) (by simp) (fun x hx => by
    simp only [List.mem_cons, List.not_mem_nil, or_false] at hx
    rcases hx with rfl | rfl
    · exact ha
    · exact hb)
set_option maxHeartbeats 2000000 in
set_option maxRecDepth 20000 in
theorem Make_c (w : World) (he : Env w) (n : Int) (d : Nat) (hn : n.natAbs < YtlmdpamehhcblaaGreatDoorD.Lim) (hd : d < YtlmdpamehhcblaaGreatDoorD.Lim) (h0 : d ≠ 0) :
    Calls Tryz.prog 39 #[.string (bs (itoa n)), .string (bs (itoa (d : Int)))] w (RetRQ (mkRat n d) w) := by
  have K1 := Lib.hid (fun w => Check_int w n hn)
  have K2 := Lib.hid (fun w => Check_int w (d : Int) hd)
  have HLo := Lib.hid (fun w he g hs => lowest_c w he g hs n d hn hd h0)
  have hz : ((bs (itoa (d : Int))).toList == [48]) = false := by
    rw [bs_toList]
    rw [beq_eq_false_iff_ne]
    intro h
    have h2 : itoa 0 = [48] := by decide +kernel
    rw [← h2] at h
    have := YtlmdpamehhcblaaGreatDoorD.itoa_inj h
    omega
  have HE := Lib.hid he
  clear hn hd h0 he
  unfold RetRQ
  unfold RetR at HLo
  generalize bs (rtext (mkRat n d)) = r at *
  generalize bs (itoa n) = sn at *
  generalize bs (itoa (d : Int)) = sd at *
  have N := new2 w (.string sn) (.string sd) 55
  obtain ⟨N0, N1⟩ := N
  go_enter Tryz.func39, Tryz.ntmps39
  go_wp2_with fail
  go_loopg [15] 2 (fun k i wr => ∃ j : Nat, k + j = 2 ∧ i = .int .i64 j ∧ Aside (Gr (w.alloc (.cells #[.string sn, .string sd] 55)) wr))
  case atStart => exact ⟨0, rfl, rfl, Gr.refl _⟩
  case round =>
    obtain ⟨j, hj, rfl, A⟩ := hrel
    have c0 := cell_gr A.out N0
    have c1 := cell_gr A.out N1
    match j, hj with
    | 0, hj =>
      go_wp2_with fail
      refine (K1.out _).mono ?_
      rintro e w1 ⟨rfl, hg⟩
      have A2 := A.out.trans hg
      go_wp2_with fail
      go_roundg (gk - 1)
      case measure => omega
      case rel => exact ⟨1, by omega, by go_num, A2⟩
    | 1, hj =>
      go_wp2_with fail
      refine (K2.out _).mono ?_
      rintro e w1 ⟨rfl, hg⟩
      have A2 := A.out.trans hg
      go_wp2_with fail
      go_roundg (gk - 1)
      case measure => omega
      case rel => exact ⟨2, by omega, by go_num, A2⟩
    | j + 2, hj =>
      have hj2 : j = 0 := by omega
      subst hj2
      go_wp2_with fail
      have G1 : Gr w _ := ((Gr.refl w).alloc _).trans A.out
      have S := S0.new wr
      have G2 : Gr w _ := G1.alloc (.cells #[.int .i64 0] 126 (0, 0))
      refine (HLo.out _ (HE.out.gr G2) _ S).mono ?_
      rintro e w1 ⟨rfl, hg⟩
      have c2 := (S.gr hg).cell
      go_wp2_with fail
      go_ret2
      exact ⟨rfl, G2.trans hg⟩
end Go.Proofs.YtlmdpamehhcblaaGreatDoor
/- Contracts of package ratio: Of, Whole, Parts, Compare, made. -/
namespace Go.Proofs.YtlmdpamehhcblaaGreatDoor
open Go.RowKit
open Go.Lib (itoa decDigits)
open YtlmdpamehhcblaaGreatDoorD (rtext rjoin cutc canon Q)

theorem lim_int {n : Int} (h0 : -9223372036854775808 ≤ n) (h1 : n ≤ 9223372036854775807) : n.natAbs < 10 ^ 19 := by
  have : (10 : Nat) ^ 19 = 10000000000000000000 := by decide
  omega
theorem lim19 {n : Nat} (h : n < 10 ^ 19) : n < YtlmdpamehhcblaaGreatDoorD.Lim := Nat.lt_of_lt_of_le h (YtlmdpamehhcblaaGreatDoorD.lim_le (by decide))
set_option maxHeartbeats 1000000 in
theorem ROf_c (w : World) (he : Env w) (n : Int) (d : Nat) (n0 : -9223372036854775808 ≤ n) (n1 : n ≤ 9223372036854775807) (d1 : d ≤ 9223372036854775807) (h0 : d ≠ 0) :
    Calls Tryz.prog 77 #[.int .i64 n, .int .i64 (d : Int)] w (RetRQ (mkRat n d) w) := by
  have H1 := Lib.hid (fun w he => Of_c w he n n0 n1)
  have H2 := Lib.hid (fun w he => Of_c w he (d : Int) (by omega) (by omega))
  have H3 := Lib.hid (fun w he => Make_c w he n d (lim19 (lim_int n0 n1)) (lim19 (by have := lim_int (n := (d : Int)) (by omega) (by omega); omega)) h0)
  have HE := Lib.hid he
  clear h0 he
  unfold RetRQ at H3 ⊢
  generalize bs (rtext (mkRat n d)) = r at *
  generalize bs (itoa n) = sn at *
  generalize bs (itoa (d : Int)) = sd at *
  go_enter Tryz.func77, Tryz.ntmps77
  go_wp2_with fail
  refine (H1.out _ HE.out).mono ?_
  rintro e w1 ⟨rfl, hg1⟩
  go_wp2_with fail
  refine (H2.out _ (HE.out.gr hg1)).mono ?_
  rintro e w2 ⟨rfl, hg2⟩
  go_wp2_with fail
  refine (H3.out _ ((HE.out.gr hg1).gr hg2)).mono ?_
  rintro e w3 ⟨rfl, hg3⟩
  go_wp2_with fail
  go_ret2
  exact ⟨rfl, (hg1.trans hg2).trans hg3⟩
set_option maxHeartbeats 1000000 in
theorem RWhole_c (w : World) (he : Env w) (n : Int) (n0 : -9223372036854775808 ≤ n) (n1 : n ≤ 9223372036854775807) :
    Calls Tryz.prog 36 #[.int .i64 n] w (RetR n w) := by
  have H1 := Lib.hid (Of_c w he n n0 n1)
  unfold RetR
  rw [YtlmdpamehhcblaaGreatDoorD.rtext_ofInt]
  generalize bs (itoa n) = sn at *
  go_enter Tryz.func36, Tryz.ntmps36
  go_wp2_with fail
  refine H1.out.mono ?_
  rintro e w1 ⟨rfl, hg1⟩
  go_wp2_with fail
  go_ret
  exact ⟨rfl, hg1⟩
/-- What ratio.Parts answers to a text that is no number's. -/
def RetBad2 (n : Int) (w : World) (e : Ending) (w' : World) : Prop := e = .returned (.tuple #[.string (bs []), .string (bs []), .int .i64 n]) ∧ Gr w w'
set_option maxHeartbeats 1000000 in
theorem Parts_bad (w : World) (he : Env w) (l : List UInt8) (hl : l.length < 4294967281) (hb : rchk l ≠ 0) : Calls Tryz.prog 135 #[.string (bs l)] w (RetBad2 (rchk l) w) := by
  have H1 := Lib.hid (RCheck_c w he l hl)
  unfold RetE at H1
  unfold RetBad2
  generalize rchk l = c at *
  generalize bs l = s at *
  go_enter Tryz.func135, Tryz.ntmps135
  go_wp2_with fail
  refine H1.out.mono ?_
  rintro e w1 ⟨rfl, hg1⟩
  go_wp2_with fail
  go_ret3
  exact ⟨rfl, hg1⟩
set_option maxHeartbeats 1000000 in
theorem Parts_c (w : World) (he : Env w) (q : Rat) (hq : Q q) : Calls Tryz.prog 135 #[.string (bs (rtext q))] w fun e w' => e = .returned (.tuple #[.string (bs (itoa q.num)), .string (bs (itoa (q.den : Int))), .int .i64 0]) ∧ Gr w w' := by
  have H1 := Lib.hid (fun w he => Checkq_c w he q hq)
  have H2 := Lib.hid (fun w he => cutq_c w he q hq)
  have HE := Lib.hid he
  clear he hq
  unfold RetE at H1
  generalize bs (rtext q) = s at *
  generalize bs (itoa q.num) = sn at *
  generalize bs (itoa (q.den : Int)) = sd at *
  go_enter Tryz.func135, Tryz.ntmps135
  go_wp2_with fail
  refine (H1.out _ HE.out).mono ?_
  rintro e w1 ⟨rfl, hg1⟩
  go_wp2_with fail
  obtain ⟨b, H⟩ := H2.out _ (HE.out.gr hg1)
  refine H.mono ?_
  rintro e w2 ⟨rfl, hg2⟩
  go_wp2_with fail
  go_ret3
  exact ⟨rfl, hg1.trans hg2⟩
theorem S0.mul2 {w : World} (he : Env w) {g h : Nat} (hs : S0 w g) (a b : Int) (h0 : w.cell? ⟨h, 0, none⟩ = some (.string (bs (itoa a)))) (h1 : w.cell? ⟨h, 1, none⟩ = some (.string (bs (itoa b))))
    (ha : a.natAbs < YtlmdpamehhcblaaGreatDoorD.Lim) (hb : b.natAbs < YtlmdpamehhcblaaGreatDoorD.Lim) (hp : (a * b).natAbs < YtlmdpamehhcblaaGreatDoorD.Lim) :
    Calls Tryz.prog 98 #[.pointer (some ⟨g, 0, none⟩), .slice (some ⟨h, 0, none⟩) 2 2] w (RetT (a * b) w) := by
  have e : ip [a, b] = a * b := by unfold ip; simp
  rw [← e]
  refine mul_c w he g h 2 hs [a, b] (fun j hj => by
    match j, hj with
    | 0, _ => exact h0
    | 1, _ => exact h1) (by simp) (fun x hx => by
    simp only [List.mem_cons, List.not_mem_nil, or_false] at hx
    rcases hx with rfl | rfl
    · exact ha
    · exact hb) (fun j => ?_)
  match j with
  | 0 => exact YtlmdpamehhcblaaGreatDoorD.one_lim
  | 1 => unfold ip; simpa using ha
  | j + 2 => rw [show ip (List.take (j + 2) [a, b]) = a * b by unfold ip; simp]; exact hp
theorem alloc_size (w : World) (o : Obj) : (w.alloc o).heap.size = w.heap.size + 1 := by unfold World.alloc; simp
set_option maxHeartbeats 1000000 in
set_option maxRecDepth 20000 in
theorem RCompare_c (w : World) (he : Env w) (a b : Rat) (ha : Q a) (hb : Q b) :
    Calls Tryz.prog 37 #[.string (bs (rtext a)), .string (bs (rtext b))] w (RetN (a.num * b.den - b.num * a.den).sign w) := by
  have HK := Lib.hid (fun w he g h0 h1 => checks2_c w he g a b h0 h1 ha hb)
  have H1 := Lib.hid (fun w he => cutq_c w he a ha)
  have H2 := Lib.hid (fun w he => cutq_c w he b hb)
  have l1 : (a.num * (b.den : Int)).natAbs < YtlmdpamehhcblaaGreatDoorD.Lim := by rw [YtlmdpamehhcblaaGreatDoorD.abs_mul]; exact YtlmdpamehhcblaaGreatDoorD.half_mul ha.n hb.d
  have l2 : (b.num * (a.den : Int)).natAbs < YtlmdpamehhcblaaGreatDoorD.Lim := by rw [YtlmdpamehhcblaaGreatDoorD.abs_mul]; exact YtlmdpamehhcblaaGreatDoorD.half_mul hb.n ha.d
  have M1 := Lib.hid (fun (w : World) (he : Env w) g h (hs : S0 w g) h0 h1 => hs.mul2 he (h := h) a.num (b.den : Int) h0 h1 ha.ln hb.ld l1)
  have M2 := Lib.hid (fun (w : World) (he : Env w) g h (hs : S0 w g) h0 h1 => hs.mul2 he (h := h) b.num (a.den : Int) h0 h1 hb.ln ha.ld l2)
  have HO := Lib.hid (fun w => WCompare_c w _ _ l1 l2)
  have HE := Lib.hid he
  have bd := sign_bd (a.num * (b.den : Int) - b.num * (a.den : Int))
  clear he ha hb l1 l2
  unfold RetE at HK
  unfold RetT at M1 M2
  unfold RetN at HO ⊢
  generalize (a.num * (b.den : Int) - b.num * (a.den : Int)).sign = sg at *
  generalize bs (itoa (a.num * (b.den : Int))) = x at *
  generalize bs (itoa (b.num * (a.den : Int))) = y at *
  generalize bs (itoa a.num) = an at *
  generalize bs (itoa b.num) = bn at *
  generalize bs (itoa (a.den : Int)) = ad at *
  generalize bs (itoa (b.den : Int)) = bd' at *
  generalize bs (rtext a) = sa at *
  generalize bs (rtext b) = sb at *
  go_enter Tryz.func37, Tryz.ntmps37
  go_wp2_with fail
  have N := new2 w (.string sa) (.string sb) 23
  refine (HK.out _ (HE.out.gr ((Gr.refl w).alloc _)) _ N.1 N.2).mono ?_
  rintro e w1 ⟨rfl, hg1⟩
  have G1 : Gr w w1 := ((Gr.refl w).alloc _).trans hg1
  clear hg1 N
  go_wp2_with fail
  obtain ⟨b1, C1⟩ := H1.out _ (HE.out.gr G1)
  refine C1.mono ?_
  rintro e w2 ⟨rfl, hg2⟩
  have G2 : Gr w w2 := G1.trans hg2
  clear hg2 C1 G1
  go_wp2_with fail
  obtain ⟨b2, C2⟩ := H2.out _ (HE.out.gr G2)
  refine C2.mono ?_
  rintro e w3 ⟨rfl, hg3⟩
  have G3 : Gr w w3 := G2.trans hg3
  clear hg3 C2 G2
  go_wp2_with fail
  have S := S0.new w3
  have G4 := G3.alloc (.cells #[.int .i64 0] 126 (0, 0))
  have N := new2 (w3.alloc (.cells #[.int .i64 0] 126 (0, 0))) (.string an) (.string bd') 55
  rw [alloc_size] at N
  have G5 := G4.alloc (.cells #[.string an, .string bd'] 55)
  have S5 := S.gr ((Gr.refl _).alloc (.cells #[.string an, .string bd'] 55))
  refine (M1.out _ (HE.out.gr G5) _ _ S5 N.1 N.2).mono ?_
  rintro e w4 ⟨rfl, hg4⟩
  have G6 : Gr w w4 := G5.trans hg4
  have S6 := S5.gr hg4
  clear S S5 G3 G4 G5 hg4 N
  go_wp2_with fail
  have N := new2 w4 (.string bn) (.string ad) 55
  have G7 := G6.alloc (.cells #[.string bn, .string ad] 55)
  have S7 := S6.gr ((Gr.refl _).alloc (.cells #[.string bn, .string ad] 55))
  refine (M2.out _ (HE.out.gr G7) _ _ S7 N.1 N.2).mono ?_
  rintro e w5 ⟨rfl, hg5⟩
  have G8 : Gr w w5 := G7.trans hg5
  have c8 := (S7.gr hg5).cell
  clear S6 S7 G6 G7 hg5 N
  go_wp2_with fail
  refine (HO.out _).mono ?_
  rintro e w6 ⟨rfl, hg6⟩
  go_wp2_with fail
  go_ret2
  exact ⟨rfl, G8.trans hg6⟩
end Go.Proofs.YtlmdpamehhcblaaGreatDoor
