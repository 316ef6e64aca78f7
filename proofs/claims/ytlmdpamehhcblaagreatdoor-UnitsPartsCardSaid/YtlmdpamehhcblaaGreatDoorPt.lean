import Derived.Test.YtlmdpamehhcblaaGreatDoorAw
import Derived.Test.YtlmdpamehhcblaaGreatDoorUv
import Derived.Deep.AppendLies
import Derived.Laws.OwnMore
/- UnitsParts: the walk. -/
namespace Go.Proofs.YtlmdpamehhcblaaGreatDoor
open Go.RowKit
open Go.Lib (itoa decDigits)
open YtlmdpamehhcblaaGreatDoorD (rtext uexact uparse uword uwhole ptext usum)

theorem Gr.grown {a w w' : World} {row : Option Nat} (h : Gr a w) (hg : w.grownBy w' row) (hr : ∀ k, row = some k → a.heap.size ≤ k) : Gr a w' :=
  ⟨hg.os.trans h.b.os, hg.tape.trans h.b.tape, hg.output.trans h.b.output, Nat.le_trans h.b.size hg.size, fun k hk => by
    rw [hg.block k (Nat.lt_of_lt_of_le hk h.b.size) (fun e => by have := hr k e.symm; omega)]
    exact h.b.block k hk⟩
theorem owns_gr {w w' : World} {base size n : Nat} {e : TypeId} {v : Value} {xs : List Value} (h : w.ownsRow base e size v n xs) (k : Gr w w') : w'.ownsRow base e size v n xs := by
  refine ⟨h.1, ?_⟩
  rcases h.2 with hn | ⟨g, cap, cur, hv, hb, hg, rest⟩
  · exact .inl hn
  · exact .inr ⟨g, cap, cur, hv, hb, by rw [k.b.block g (Array.getElem?_eq_some_iff.1 hg).1]; exact hg, rest⟩
theorem owns_row_ge {w : World} {base size n : Nat} {e : TypeId} {v : Value} {xs : List Value} (h : w.ownsRow base e size v n xs) : ∀ k, v.ownBlock = some k → base ≤ k := fun k hk => (h.lt k hk).1
theorem owns_base {w : World} {base size n : Nat} {e : TypeId} {v : Value} {xs : List Value} (h : w.ownsRow base e size v n xs) : w.ownsRow 0 e size v n xs := by
  refine ⟨h.1, ?_⟩
  rcases h.2 with hn | ⟨g, cap, cur, hv, _, rest⟩
  · exact .inl hn
  · exact .inr ⟨g, cap, cur, hv, Nat.zero_le _, rest⟩
/-- What is owned, as texts in memory. -/
theorem texts_own {w : World} {base n g cap : Nat} (l : List (List UInt8)) (hl : l.length = n) (h : w.ownsRow base 9 1 (.slice (some ⟨g, 0, none⟩) n cap) n (l.map fun s => .string (bs s))) : TextsAt w g 0 l := fun j hj => by
  rw [Nat.zero_add, h.cellAt j (by omega), List.getElem?_map, List.getElem?_eq_getElem hj, List.getD_eq_getElem?_getD, List.getElem?_eq_getElem hj]
  rfl
theorem new1 (w : World) (a : Value) (t : TypeId) : (w.alloc (.cells #[a] t)).cell? ⟨w.heap.size, 0, none⟩ = some a := by
  have h : (w.alloc (.cells #[a] t)).heap[w.heap.size]? = some (.cells #[a] t) := heap_alloc_new w _
  unfold World.cell?; rw [h]; rfl
theorem news1 (w : World) (a : Value) (t : TypeId) : ∀ j u, [a][j]? = some u → (w.alloc (.cells #[a] t)).cell? ((⟨w.heap.size, 0, none⟩ : Addr).add j) = some u := by
  intro j u hj
  have h : (w.alloc (.cells #[a] t)).heap[w.heap.size]? = some (.cells #[a] t) := heap_alloc_new w _
  exact World.news_of_block h j u hj
theorem info9 : (Tryz.prog.info? 9).map (fun i => (i.zero, i.size, i.bytes)) = some (some (.string { data := #[] }), 1, 16) := by kernel_rfl
set_option maxHeartbeats 8000000 in
set_option maxRecDepth 20000 in
theorem parts_walk (w : World) (he : Env w) (a b : Int) (A B : Nat) (K W T M : ByteArray) (wh : Int) (ha0 : 0 ≤ a) (ha1 : a ≤ 255) (hb0 : 0 ≤ b) (hb1 : b ≤ 255) (hA : a.tmod 40 = A) (hA2 : A < 40) (hB : b.tmod 3 = B)
    (hK : K.size ≤ 10) (hW : W.size ≤ 10) (hwh : 1 ≤ wh) (hwh2 : wh ≤ 100000) (hT : { data := #[49, 47] } ++ K ++ { data := #[32] } ++ W = T) (hM : { data := #[45, 49, 32] } ++ W = M)
    (hWo : ∀ w, Calls Tryz.prog 27 #[.int .i64 B] w fun e w' => e = .returned (.tuple #[.string W, .int .i64 0]) ∧ Gr w w')
    (hP : ∀ w, Env w → Calls Tryz.prog 23 #[.string ({ data := #[49, 32] } ++ W)] w fun e w' => e = .returned (.tuple #[.int .i64 wh, .int .i64 0]) ∧ Gr w w')
    (hI : ∀ w, Env w → Calls Tryz.prog 34 #[.int .i64 (1 + A : Int)] w fun e w' => e = .returned (.string K) ∧ Gr w w')
    (hS1 : ∀ w, Env w → ∀ g cap, w.ownsRow 0 9 1 (.slice (some ⟨g, 0, none⟩) (A + 1) cap) (A + 1) (List.replicate (A + 1) (.string T)) → Calls Tryz.prog 32 #[.slice (some ⟨g, 0, none⟩) (A + 1) cap] w fun e w' => e = .returned (.tuple #[.int .i64 wh, .int .i64 0]) ∧ Gr w w')
    (hS2 : ∀ w, Env w → ∀ g cap, w.ownsRow 0 9 1 (.slice (some ⟨g, 0, none⟩) (A + 2) cap) (A + 2) (List.replicate (A + 1) (.string T) ++ [.string M]) → Calls Tryz.prog 32 #[.slice (some ⟨g, 0, none⟩) (A + 2) cap] w fun e w' => e = .returned (.tuple #[.int .i64 0, .int .i64 0]) ∧ Gr w w') :
    Calls Tryz.prog 8 #[.int .u8 a, .int .u8 b] w fun e w' => e = .returned (.bool true) ∧ Gr w w' := by
  have HA := Lib.hid (fun w he => awake13_c w he)
  have HE := Lib.hid he
  have HW := Lib.hid hWo; have HP := Lib.hid hP; have HI := Lib.hid hI; have HS1 := Lib.hid hS1; have HS2 := Lib.hid hS2
  have HT := Lib.hid hT; have HM := Lib.hid hM
  obtain ⟨i9, hi, hz0, hz1, hz2⟩ := info_parts info9
  clear he hWo hP hI hS1 hS2 hT hM
  go_enter Tryz.func8, Tryz.ntmps8
  go_wp2_with fail
  refine (HW.out _).mono ?_
  rintro e w1 ⟨rfl, hg1⟩
  go_wp2_with fail
  refine (HP.out _ (HE.out.gr hg1)).mono ?_
  rintro e w2 ⟨rfl, hg2⟩
  have G2 := Lib.hid (hg1.trans hg2)
  clear hg1 hg2
  go_wp2_with fail
  go_loopg [11, 40] (A + 1) (fun k v i wr => ∃ j : Nat, k + j = A + 1 ∧ i = .int .i64 j ∧ Aside (wr.ownsRow w.heap.size 9 1 v j (List.replicate j (.string T)) ∧ Gr w wr))
  case atStart => exact ⟨0, rfl, rfl, World.ownsRow_nil _ _ _ _, G2.out⟩
  case round =>
    obtain ⟨j, hj, rfl, AS⟩ := hrel
    by_cases hlt : j < A + 1
    · go_wp2_with fail
      refine (HI.out _ (HE.out.gr AS.out.2)).mono ?_
      rintro e w3 ⟨rfl, hg3⟩
      have hown := owns_gr AS.out.1 hg3
      have G3 := Lib.hid (AS.out.2.trans hg3)
      clear hg3
      have hTT := HT.out
      go_wp2_with (at_builtin; refine wpList_append_lies _ rfl _ _ 42 rfl w.heap.size 9 i9 (.string { data := #[] }) 1 16 Tryz.underlying42 hi hz0 hz1 hz2 rfl (by decide) _ _ _ rfl (hown.alloc _) ⟨w3.heap.size, 0, none⟩ 1 1 [.string T] rfl rfl (news1 w3 _ _) (by intro u hu; simp at hu; subst hu; rfl) (by decide) (by unfold maxLen; omega) (by omega) (by have := G3.out.size; simp; omega) _ rfl ?_)
      intro g cap w4 hown4 hgrow hat hlt4
      have e4 : List.replicate j (Value.string T) ++ [.string T] = List.replicate (j + 1) (Value.string T) := by rw [List.replicate_succ']
      rw [e4] at hown4
      have A2 : Aside (w4.ownsRow w.heap.size 9 1 (.slice (some ⟨g, 0, none⟩) (j + 1) cap) (j + 1) (List.replicate (j + 1) (.string T)) ∧ Gr w w4) := ⟨hown4, (G3.out.alloc _).grown hgrow (owns_row_ge AS.out.1)⟩
      clear hown4 hgrow hat hlt4 AS hown e4 hTT
      go_wp2_with fail
      go_roundg (gk - 1)
      case measure => omega
      case rel => exact ⟨j + 1, by omega, by go_num, A2.out⟩
    · have hj1 : j = A + 1 := by omega
      subst hj1
      obtain ⟨g, cap, rfl, hbg, hgl⟩ := AS.out.1.form (by omega)
      have S1 := Lib.hid (HS1.out wr (HE.out.gr AS.out.2) g cap (owns_base AS.out.1))
      go_wp2_with fail
      refine S1.out.mono ?_
      rintro e w3 ⟨rfl, hg3⟩
      have hown := owns_gr AS.out.1 hg3
      have G3 := Lib.hid (AS.out.2.trans hg3)
      have hr := Lib.hid (owns_row_ge AS.out.1)
      clear hg3 AS S1 hgl
      have hMM := HM.out
      go_wp2_with (at_builtin; refine wpList_append_lies _ rfl _ _ 42 rfl w.heap.size 9 i9 (.string { data := #[] }) 1 16 Tryz.underlying42 hi hz0 hz1 hz2 rfl (by decide) _ _ _ rfl (hown.alloc _) ⟨w3.heap.size, 0, none⟩ 1 1 [.string M] rfl rfl (news1 w3 _ _) (by intro u hu; simp at hu; subst hu; rfl) (by decide) (by unfold maxLen; omega) (by omega) (by have := G3.out.size; simp; omega) _ rfl ?_)
      intro g2 cap2 w4 hown4 hgrow hat hlt4
      have G4 := Lib.hid ((G3.out.alloc _).grown hgrow hr.out)
      have S2 := Lib.hid (HS2.out w4 (HE.out.gr G4.out) g2 cap2 (owns_base hown4))
      clear hown4 hgrow hat hlt4 hown hMM
      go_wp2_with fail
      refine S2.out.mono ?_
      rintro e w5 ⟨rfl, hg5⟩
      have G5 := Lib.hid (G4.out.trans hg5)
      go_wp2_with fail
      refine (HA.out _ (HE.out.gr G5.out)).mono ?_
      rintro e w6 ⟨rfl, hg6⟩
      go_wp2_with fail
      go_ret
      exact ⟨rfl, G5.out.trans hg6⟩
theorem sum_own {w : World} (he : Env w) {g cap n : Nat} (l : List (List UInt8)) (hl : l.length = n) (hn : n ≤ 60) (hb : ∀ s ∈ l, s.length < 4294967281) (r : Int) (hr : usum l = .ok r)
    (h : w.ownsRow 0 9 1 (.slice (some ⟨g, 0, none⟩) n cap) n (l.map fun s => .string (bs s))) :
    Calls Tryz.prog 32 #[.slice (some ⟨g, 0, none⟩) n cap] w fun e w' => e = .returned (.tuple #[.int .i64 r, .int .i64 0]) ∧ Gr w w' := by
  have := Sum_c w he (some ⟨g, 0, none⟩) g 0 cap l (fun _ => rfl) (texts_own l hl h) (by omega) hb (fun _ j q hq => YtlmdpamehhcblaaGreatDoorD.usum_Q (by omega) j q hq)
  rw [hr, hl] at this
  exact this
theorem LParts_c (w : World) (he : Env w) (a b : Int) (ha0 : 0 ≤ a) (ha1 : a ≤ 255) (hb0 : 0 ≤ b) (hb1 : b ≤ 255) :
    Calls Tryz.prog 8 #[.int .u8 a, .int .u8 b] w fun e w' => e = .returned (.bool true) ∧ Gr w w' := by
  obtain ⟨A, hA, hA2⟩ : ∃ A : Nat, a.tmod 40 = A ∧ A < 40 := by
    rw [Int.tmod_eq_emod_of_nonneg ha0]
    exact ⟨(a % 40).toNat, by omega, by omega⟩
  obtain ⟨B, hB, hB2⟩ : ∃ B : Nat, b.tmod 3 = B ∧ B < 3 := by
    rw [Int.tmod_eq_emod_of_nonneg hb0]
    exact ⟨(b % 3).toNat, by omega, by omega⟩
  have l1 := YtlmdpamehhcblaaGreatDoorD.len6 (n := A + 1) (by omega)
  have l2 := YtlmdpamehhcblaaGreatDoorD.uword4 B
  obtain ⟨w1, w2, w3, w4, w5⟩ := YtlmdpamehhcblaaGreatDoorD.whole_int hB2
  have w6 : uwhole B ≤ 100000 := by
    match B, hB2 with
    | 0, _ => decide
    | 1, _ => decide
    | 2, _ => decide
  have eT : { data := #[49, 47] } ++ bs (decDigits (A + 1)) ++ { data := #[32] } ++ bs (uword B) = bs (ptext (A + 1) B) := by
    show bs [49, 47] ++ bs (decDigits (A + 1)) ++ bs [32] ++ bs (uword B) = _
    rw [bs_append, bs_append, bs_append, List.append_assoc, List.append_assoc]; rfl
  have eM : { data := #[45, 49, 32] } ++ bs (uword B) = bs ([45, 49, 32] ++ uword B) := by
    show bs [45, 49, 32] ++ bs (uword B) = _
    rw [bs_append]
  have eP : { data := #[49, 32] } ++ bs (uword B) = bs ([49, 32] ++ uword B) := by
    show bs [49, 32] ++ bs (uword B) = _
    rw [bs_append]
  have lp : (ptext (A + 1) B).length < 4294967281 := by unfold YtlmdpamehhcblaaGreatDoorD.ptext; simp; omega
  refine parts_walk w he a b A B (bs (decDigits (A + 1))) (bs (uword B)) _ _ (uwhole B) ha0 ha1 hb0 hb1 hA hA2 hB (by rw [bs_size]; omega) (by rw [bs_size]; omega) w5 w6 eT eM ?_ ?_ ?_ ?_ ?_
  · intro w
    have := Word_c w (B : Int)
    rw [if_pos (by omega)] at this
    exact this
  · intro w he
    have := Parse_c w he ([49, 32] ++ uword B) (by simp; omega)
    rw [w4] at this
    rw [eP]
    exact this
  · intro w he
    have := Itoa_c w he (1 + A : Int) (by omega) (by omega)
    rw [show (1 + A : Int) = ((A + 1 : Nat) : Int) by omega, YtlmdpamehhcblaaGreatDoorD.itoa_nat] at this
    rw [show (1 + A : Int) = ((A + 1 : Nat) : Int) by omega]
    exact this
  · intro w he g cap h
    refine sum_own he (List.replicate (A + 1) (ptext (A + 1) B)) (by simp) (by omega) (fun s hs => by rw [(List.mem_replicate.1 hs).2]; exact lp) _ (YtlmdpamehhcblaaGreatDoorD.usum_ptexts (by omega) (by omega) hB2) ?_
    rw [List.map_replicate]
    exact h
  · intro w he g cap h
    refine sum_own he (List.replicate (A + 1) (ptext (A + 1) B) ++ [[45, 49, 32] ++ uword B]) (by simp) (by omega) (fun s hs => by
      rcases List.mem_append.1 hs with hs | hs
      · rw [(List.mem_replicate.1 hs).2]; exact lp
      · rw [List.mem_singleton.1 hs]; simp; omega) _ (YtlmdpamehhcblaaGreatDoorD.usum_less (by omega) (by omega) hB2) ?_
    rw [List.map_append, List.map_replicate]
    exact h
end Go.Proofs.YtlmdpamehhcblaaGreatDoor
