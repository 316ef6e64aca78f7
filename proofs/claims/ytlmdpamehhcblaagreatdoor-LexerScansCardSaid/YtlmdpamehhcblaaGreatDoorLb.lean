import Derived.Test.YtlmdpamehhcblaaGreatDoorLa
import Derived.RangeFuncNested
import Derived.RangeFuncBound
import Derived.RangeFuncCalls
import Derived.RangeFuncLeaves
import Derived.RangeFuncFrom
import Derived.Shelf.Abstract
import Derived.Shelf.RegionOpen
import Derived.WalkKit
import Derived.OwnWalkIn
import Derived.TacticsInMore
import Derived.LoopNIn
import Derived.LoopIn
import Derived.Sort.QuietIn
/- Contracts of the lexer: the iterator run, length. -/
namespace Go.Proofs.YtlmdpamehhcblaaGreatDoor
open Go.RowKit Go.Shelf
open YtlmdpamehhcblaaGreatDoorD (isDig isLet cls marks spanN)

/-- Small numbers in memory. -/
def NatsAt (w : World) (g : Nat) (l : List Nat) : Prop := ∀ j, j < l.length → w.cell? ⟨g, j, none⟩ = some (.int .i64 (l.getD j 0 : Nat))
theorem NatsAt.gr {w w' : World} {g : Nat} {l : List Nat} (h : NatsAt w g l) (k : Gr w w') : NatsAt w' g l := fun j hj => cell_gr k (h j hj)
theorem NatsAt.below {w w' : World} {g b : Nat} {l : List Nat} (h : NatsAt w g l) (k : Below b w w') (hg : g < b) : NatsAt w' g l := fun j hj => (k.cell (p := ⟨g, j, none⟩) hg).trans (h j hj)
/-- Where a number first stands. -/
def fstAt (l : List Nat) (x : Nat) : Int := if l.contains x then (l.idxOf x : Nat) else -1
theorem take_snoc_nat (l : List Nat) (j : Nat) (h : j < l.length) : l.take (j + 1) = l.take j ++ [l.getD j 0] := by
  rw [List.take_add_one, List.getElem?_eq_getElem h, List.getD_eq_getElem?_getD, List.getElem?_eq_getElem h]; rfl
set_option maxHeartbeats 1000000 in
theorem IndexInts_c (w : World) (g c : Nat) (l : List Nat) (x : Nat) (hl : NatsAt w g l) (hn : l.length ≤ 100) :
    Calls Tryz.prog 272 #[.slice (some ⟨g, 0, none⟩) l.length c, .int .i64 x] w fun e w' => (∃ i : Int, e = .returned (.int .i64 i) ∧ decide (0 ≤ i) = l.contains x) ∧ w' = w := by
  have HL := Lib.hid hl
  clear hl
  go_enter Tryz.func272, Tryz.ntmps272
  go_wp2_with fail
  go_loopg [8] l.length (fun k i wr => ∃ j : Nat, k + j = l.length ∧ i = .int .i64 j ∧ Aside ((l.take j).contains x = false) ∧ wr = w)
  case atStart => exact ⟨0, rfl, rfl, rfl, rfl⟩
  case round =>
    obtain ⟨j, hj, rfl, A, rfl⟩ := hrel
    by_cases hlt : j < l.length
    · have hc := HL.out j hlt
      have ht := take_snoc_nat l j hlt
      by_cases hx : x = l.getD j 0
      · have hmem : l.contains x = true := by
          rw [hx, List.getD_eq_getElem?_getD, List.getElem?_eq_getElem hlt]
          simp
        rw [← hx] at hc
        have HM := Lib.hid hmem
        clear ht hx hmem
        go_wp2_with fail
        go_ret
        exact ⟨⟨j, rfl, by rw [HM.out]; simp⟩, rfl⟩
      · have A2 : Aside ((l.take (j + 1)).contains x = false) := by
          have := A.out
          show (l.take (j + 1)).contains x = false
          rw [ht]
          simp only [List.contains_eq_mem, List.mem_append, List.mem_singleton, decide_eq_false_iff_not] at this ⊢
          exact fun h => h.elim this hx
        generalize l.getD j 0 = y at *
        clear A ht
        go_wp2_with fail
        go_roundg (gk - 1)
        case measure => omega
        case rel => exact ⟨j + 1, by omega, by go_num, A2.out, rfl⟩
    · have hjl : l.take j = l := List.take_of_length_le (by omega)
      have := A.out
      rw [hjl] at this
      have HM := Lib.hid this
      clear this A
      go_wp2_with fail
      go_ret
      exact ⟨⟨-1, rfl, by rw [HM.out]; rfl⟩, rfl⟩
set_option maxHeartbeats 1000000 in
theorem ContainsInts_c (w : World) (g c : Nat) (l : List Nat) (x : Nat) (hl : NatsAt w g l) (hn : l.length ≤ 100) :
    Calls Tryz.prog 261 #[.slice (some ⟨g, 0, none⟩) l.length c, .int .i64 x] w fun e w' => e = .returned (.bool (l.contains x)) ∧ w' = w := by
  have H := Lib.hid (IndexInts_c w g c l x hl hn)
  clear hl hn
  generalize l.contains x = b at *
  generalize l.length = n at *
  go_enter Tryz.func261, Tryz.ntmps261
  go_wp2_with fail
  refine H.out.mono ?_
  rintro e w1 ⟨⟨i, rfl, hi⟩, rfl⟩
  go_wp2_with fail
  go_ret
  exact ⟨by rw [← hi]; rfl, rfl⟩
/-- Three blocks lie as they lay. -/
def Kp3 (b1 b2 g : Nat) (A B : World) : Prop := ∀ k, k = b1 ∨ k = b2 ∨ k = g → B.heap[k]? = A.heap[k]?
theorem Kp3.refl (b1 b2 g : Nat) (A : World) : Kp3 b1 b2 g A A := fun _ _ => rfl
theorem Kp3.trans {b1 b2 g : Nat} {A B C : World} (h : Kp3 b1 b2 g A B) (k : Kp3 b1 b2 g B C) : Kp3 b1 b2 g A C := fun i hi => (k i hi).trans (h i hi)
theorem Kp3.put {b1 b2 g : Nat} {w : World} (h1 : b1 < w.heap.size) (h2 : b2 < w.heap.size) (h3 : g < w.heap.size) (W : World) (l : Nat) (o o' : Obj) (hl : w.heap.size ≤ l) (_ : W.heap[l]? = some o) (_ : o.isCells = false) (_ : o.isWalk = false) : Kp3 b1 b2 g W (W.putObj l o') :=
  fun k hk => World.putObj_heap_other (by omega)
theorem Kp3.below {b1 b2 g b : Nat} {A B : World} (h : Below b A B) (h1 : b1 < b) (h2 : b2 < b) (h3 : g < b) : Kp3 b1 b2 g A B := fun k hk => h.block k (by omega)
theorem Kp3.cell {b1 b2 g : Nat} {A B : World} (h : Kp3 b1 b2 g A B) {p : Addr} (hp : p.block = b1 ∨ p.block = b2 ∨ p.block = g) : B.cell? p = A.cell? p := by
  unfold World.cell?; rw [h p.block hp]
/-- What the iterator reads. -/
structure RunAt (w : World) (b1 b2 g c : Nat) (s : List UInt8) (l : List Nat) : Prop where
  c1 : w.cell? ⟨b1, 0, none⟩ = some (.string (bs s))
  c2 : w.cell? ⟨b2, 0, none⟩ = some (.slice (some ⟨g, 0, none⟩) l.length c)
  ns : NatsAt w g l
theorem RunAt.kp {w w' : World} {b1 b2 g c : Nat} {s : List UInt8} {l : List Nat} (h : RunAt w b1 b2 g c s l) (k : Kp3 b1 b2 g w w') : RunAt w' b1 b2 g c s l :=
  ⟨(k.cell (p := ⟨b1, 0, none⟩) (.inl rfl)).trans h.c1, (k.cell (p := ⟨b2, 0, none⟩) (.inr (.inl rfl))).trans h.c2, fun j hj => (k.cell (p := ⟨g, j, none⟩) (.inr (.inr rfl))).trans (h.ns j hj)⟩
theorem grown_drew (w : World) : w.grownBy w.drew none := ⟨rfl, rfl, rfl, Nat.le_refl _, fun _ _ _ => rfl⟩
theorem runs_take (s : List UInt8) (j : Nat) (h : j < s.length) : s.take j ++ [(bs s)[j]'(by rw [bs_size]; exact h)] = s.take (j + 1) := by
  rw [List.take_add_one, List.getElem?_eq_getElem h]; rfl
theorem runs_pre (s : List UInt8) (j : Nat) (h : j < s.length) : s.take j ++ [(bs s)[j]'(by rw [bs_size]; exact h)] <+: s := by
  rw [runs_take s j h]; exact List.take_prefix _ _
theorem runs_next (l : List Nat) (s : List UInt8) (j : Nat) (h : j < s.length) (hj : j ≤ spanN l s) (hin : l.contains (cls ((bs s)[j]'(by rw [bs_size]; exact h))) = true) : j + 1 ≤ spanN l s := by
  rcases Nat.lt_or_ge j (spanN l s) with h2 | h2
  · exact h2
  · have e : spanN l s = j := by omega
    have := YtlmdpamehhcblaaGreatDoorD.spanN_at l s (by omega)
    simp only [e] at this
    have h3 : l.contains (cls s[j]) = true := hin
    rw [this] at h3; cases h3
theorem runs_stop (l : List Nat) (s : List UInt8) (j : Nat) (h : j < s.length) (hj : j ≤ spanN l s) (hin : l.contains (cls ((bs s)[j]'(by rw [bs_size]; exact h))) = false) : spanN l s = j := by
  rcases Nat.lt_or_ge j (spanN l s) with h2 | h2
  · obtain ⟨a, b⟩ := YtlmdpamehhcblaaGreatDoorD.spanN_in l s j h2
    have h3 : l.contains (cls s[j]) = false := hin
    rw [b] at h3; cases h3
  · omega
set_option maxRecDepth 20000 in
set_option maxHeartbeats 1000000 in
theorem runs (m : Nat) (hm : 2 ≤ m) (w : World) (b1 b2 g c : Nat) (s : List UInt8) (l : List Nat) (hs : s.length ≤ 4611686018427387904) (hl : l.length ≤ 100) (h1 : b1 < w.heap.size) (h2 : b2 < w.heap.size) (h3 : g < w.heap.size) (hR : RunAt w b1 b2 g c s l) :
    SeqStopsK Fence.wide m Tryz.prog 260 #[.pointer (some ⟨b1, 0, none⟩), .pointer (some ⟨b2, 0, none⟩)] (fun x : UInt8 => #[Value.int .u8 (x.toNat : Int)]) (Kp3 b1 b2 g) (fun ys => ys = s.take (spanN l s)) (fun pre => pre <+: s) s.length w := by
  intro lo J Jx W hW hJ hJx hY h0
  have hRW : RunAt W b1 b2 g c s l := hR.kp (.below hW h1 h2 h3)
  have hmx : Tryz.prog.follows .mixedOrders = true := by kernel_rfl
  refine callsIn_of_wp Tryz.func260 rfl trivial ?_ rfl
  simp only [Tryz.ntmps260, List.size_toArray, List.length_cons, List.length_nil, Nat.reduceAdd, Nat.reduceSub, Array.replicate_succ, Array.replicate_zero, List.push_toArray, List.append_toArray, List.nil_append, List.cons_append]
  have c1 := hRW.c1
  have hsz := bs_size s
  gi_wp2
  gi_loopw [7] (fun p wr => ∃ j : Nat, p = .int .i64 j ∧ Aside (j ≤ spanN l s ∧ J (s.take j) wr ∧ Kp3 b1 b2 g W wr)) (fun p wr => s.length - (intOf p).toNat)
  case atStart => exact ⟨0, rfl, Nat.zero_le _, h0, Kp3.refl _ _ _ _⟩
  case round =>
    obtain ⟨j, rfl, A⟩ := hrel
    have hjs : j ≤ s.length := Nat.le_trans A.out.1 (YtlmdpamehhcblaaGreatDoorD.spanN_le _ _)
    by_cases hlt : j < s.length
    · have hRr : RunAt wr b1 b2 g c s l := hRW.kp A.out.2.2
      have k1 := hRr.c1
      have k2 := hRr.c2
      have d1 : wr.drew.cell? ⟨b1, 0, none⟩ = some (.string (bs s)) := k1
      have d2 : wr.drew.cell? ⟨b2, 0, none⟩ = some (.slice (some ⟨g, 0, none⟩) l.length c) := k2
      have hz : j < (bs s).size := by omega
      have HC := Lib.hid (class_c wr.drew ((bs s)[j]'hz))
      have HI := Lib.hid (fun q => ContainsInts_c (wr.drewN q) g c l (YtlmdpamehhcblaaGreatDoorD.cls ((bs s)[j]'hz)) hRr.ns hl)
      cases hin : l.contains (YtlmdpamehhcblaaGreatDoorD.cls ((bs s)[j]'hz)) with
      | false =>
        rw [hin] at HI
        gi_wp2
        refine wpIn_region_quiet_lit rfl (by assumption) (by kernel_rfl) ?_
        gi_big_quiet_step (fail)
        gi_big_quiet_step (fail)
        gi_big_quiet_step (fail)
        gi_big_quiet_step (fail)
        refine BigFrame.wpQuietIn_want (fun _ _ _ _ => trivial) rfl (fun K hK => ?_)
        gi_big_quiet_op
        apply Exists.intro
        refine ⟨fun _ => ?_, ?_⟩
        · refine ⟨fun _ => by omega, ?_⟩
          gi_at_call 121
          exact CallsIn.quiet_of_same (callsIn_wide.2 (class_c _ _))
        refine hK _ ?_
        clear hK K
        try simp only [Act.put, List.setIfInBounds_toArray, List.set_cons_succ, List.set_cons_zero]
        refine BigFrame.wpQuietIn_want (fun _ _ _ _ => trivial) rfl (fun K hK => ?_)
        gi_big_quiet_op
        apply Exists.intro
        refine ⟨fun _ => ?_, ?_⟩
        · refine ⟨fun _ => by omega, ?_⟩
          gi_at_call 261
          exact CallsIn.quiet_of_same (callsIn_wide.2 (HI.out _))
        refine hK _ ?_
        clear hK K
        try simp only [Act.put, List.setIfInBounds_toArray, List.set_cons_succ, List.set_cons_zero]
        gi_big_quiet_step (fail)
        gi_big_quiet_step (fail)
        gi_big_quiet_step (fail)
        gi_big_quiet_step (fail)
        gi_big_quiet_step (fail)
        gi_big_quiet_step (fail)
        refine BigFrame.wpQuietIn_skip (fun _ _ _ _ => trivial) rfl ?_
        try simp only [Act.put, List.setIfInBounds_toArray, List.set_cons_succ, List.set_cons_zero]
        gi_big_quiet_step (fail)
        gi_big_quiet_step (fail)
        refine wpQuietIn_nil ?_
        intro _ hw'
        obtain ⟨nq, hw''⟩ := hw'
        subst hw''
        gi_wp2
        refine bodyPost_ret (results_none rfl _ _ _) rfl ?_
        have hstop := runs_stop l s j hlt A.out.1 hin
        exact ⟨⟨_, rfl⟩, .inl ⟨s.take j, by rw [hstop], hJ _ _ _ none A.out.2.1 ⟨rfl, rfl, rfl, Nat.le_refl _, fun _ _ _ => rfl⟩ (fun r e => by cases e)⟩⟩
      | true =>
        rw [hin] at HI
        have HI := Lib.hid (show Calls Tryz.prog 261 #[.slice (some ⟨g, 0, none⟩) l.length c, .int .i64 (YtlmdpamehhcblaaGreatDoorD.cls ((bs s)[j]'hz) : Nat)] wr.drew fun e w' => e = .returned (.bool true) ∧ w' = wr.drew from HI.out 1)
        have hj1 := A.out.2.1
        have hJd : J (s.take j) wr.drew := hJ _ _ _ none hj1 (grown_drew wr) (fun r e => by cases e)
        have hY' := (hY (s.take j) ((bs s)[j]'hz) wr.drew hJd (by rw [List.length_take]; omega)).mono (R' := fun e W' => ∃ b : Bool, e = .returned (.bool b) ∧ Aside (if b then J (s.take j ++ [(bs s)[j]'hz]) W' ∧ Kp3 b1 b2 g wr.drew W' else Jx (s.take j ++ [(bs s)[j]'hz]) W')) (fun e W' h => by
          rcases h with ⟨h1, h2, h3⟩ | ⟨h1, h2⟩
          · exact ⟨true, h1, h2, h3⟩
          · exact ⟨false, h1, h2⟩)
        obtain ⟨fn, tmps, assign, body, hy, hR⟩ := hY'
        have HRd := Lib.hid hR
        clear hR
        gi_wp2
        gi_region_with_o (first | (refine ⟨trivial, fun _ => by omega, ?_⟩; gi_at_call 121; refine (callsIn_wide.2 HC.out).mono ?_; rintro e w' ⟨rfl, rfl⟩) | (refine ⟨trivial, fun _ => by omega, ?_⟩; gi_at_call 261; refine (callsIn_wide.2 HI.out).mono ?_; rintro e w' ⟨rfl, rfl⟩) | (refine ⟨fun _ => by omega, ?_⟩; refine HRd.out.mono ?_; rintro e W3 ⟨b, rfl, hb⟩))
        all_goals (cases b <;> gi_wp2)
        all_goals first
          | (refine bodyPost_ret (results_none rfl _ _ _) rfl ?_
             exact ⟨⟨_, rfl⟩, .inr ⟨s.take j ++ [(bs s)[j]'hz], runs_pre s j hlt, hb.out⟩⟩)
          | exact ⟨⟨j + 1, by rw [Int.natCast_add]; rfl, runs_next l s j hlt A.out.1 hin, by rw [← runs_take s j hlt]; exact hb.out.1, A.out.2.2.trans hb.out.2⟩, by simp [intOf]; omega⟩
    · have hjl : j = s.length := by omega
      gi_wp2
      go_end0
      refine ⟨⟨_, rfl⟩, .inl ⟨s.take j, ?_, A.out.2.1⟩⟩
      have := YtlmdpamehhcblaaGreatDoorD.spanN_le l s
      have := A.out.1
      rw [show spanN l s = j by omega]
end Go.Proofs.YtlmdpamehhcblaaGreatDoor
