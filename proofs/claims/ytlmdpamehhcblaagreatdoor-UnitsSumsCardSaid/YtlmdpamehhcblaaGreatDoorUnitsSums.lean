/-
  Proved: Sum returns the sum or the error of the reference ('metrolab/metrolablaw13.UnitsSums' returns true for every input, never panics, and leaves its arguments as they were).
  Conditions: the row's own: the listed library variables hold what their initialisers lay, the world is shaped; nothing else.
-/
import Derived.Test.YtlmdpamehhcblaaGreatDoorKf
import Derived.Deep.Strs
import Derived.Carry
import Derived.Test.YtlmdpamehhcblaaGreatDoorSt
namespace Go.Proofs.YtlmdpamehhcblaaGreatDoor.unitsSums
set_option linter.unusedVariables false
open Go.ChangeShapes Go.WideShapes Go.ChangeAt Go.RowKit
open Go.ChangeMaps (open_string shut_string)

open Go.Deep
theorem laidOut : laidOutB Tryz.prog = true := by as_aux_lemma => kernel_rfl
theorem cells9 : Tryz.prog.cellsOf 9 = 1 := by kernel_rfl
theorem spot_none {w : World} {b o : Nat} {sp : Option Nat} {v : Value} (h : w.cell? ⟨b, o, sp⟩ = some v) : sp = none := by
  cases sp with
  | none => rfl
  | some x =>
    unfold World.cell? at h
    split at h <;> simp at h
/-- The cells of a slice of strings, as texts. -/
theorem texts_of {W : World} (a : Addr) (len : Nat) (Sx : Nat → ByteArray) (h : ∀ i, i < len → W.cell? (a.add i) = some (.string (Sx i))) :
    (((List.range len).map fun i => (Sx i).data.toList) ≠ [] → (some a : Option Addr) = some ⟨a.block, a.off, none⟩) ∧ TextsAt W a.block a.off ((List.range len).map fun i => (Sx i).data.toList) := by
  obtain ⟨b, o, sp⟩ := a
  by_cases hl : len = 0
  · subst hl
    exact ⟨fun h => absurd rfl h, fun j hj => absurd hj (by simp)⟩
  · have h0 := h 0 (by omega)
    have e0 : (⟨b, o, sp⟩ : Addr).add 0 = ⟨b, o, sp⟩ := by unfold Addr.add; rw [if_pos rfl]
    rw [e0] at h0
    have hsp := spot_none h0
    subst hsp
    refine ⟨fun _ => rfl, fun j hj => ?_⟩
    have hj' : j < len := by simpa using hj
    have hc := h j hj'
    have e : (⟨b, o, none⟩ : Addr).add j = ⟨b, o + j, none⟩ := by
      unfold Addr.add
      split
      · rename_i hz; subst hz; rfl
      · rfl
    rw [e] at hc
    rw [hc]
    congr 2
    rw [List.getD_eq_getElem?_getD, List.getElem?_eq_getElem hj, Option.getD_some, List.getElem_map, List.getElem_range, bs_of]
theorem walk (p : Option Addr) (len cap : Nat) (g off : Nat) (l : List (List UInt8)) (hl : l.length = len) (hm : len ≤ maxLen) (hp : l ≠ [] → p = some ⟨g, off, none⟩) (w : World) (he : Env w) (ht : TextsAt w g off l) :
    Calls Tryz.prog 6 #[.slice p len cap] w fun e w' => e = .returned (.bool true) ∧ Gr w w' := by
  subst hl
  exact Sums_c w he p g off cap l hp ht (by unfold maxLen at hm; omega)
set_option maxRecDepth 100000 in
theorem lifted (os : Os) (started : os.Started) (H : Type) (enc : TypeId × Value → H) :
    ReturnsInHanded {} Tryz.checked os 6 .any (fun w args => (Rows.unitsSumsSpec.pre enc Tryz.prog Tryz.f6 [] false w args ∧ laidMetH Tryz.prog laid7 w) ∧ sizedMet enc Tryz.prog Tryz.f6 (OpenSpec.ofChange Rows.unitsSumsSpec) false w args)
      (Rows.unitsSumsSpec.post enc Tryz.prog Tryz.f6 false true false false) := by
  refine returnsBoth (C := Tryz.checked) (X := fun w _ => laidMetH Tryz.prog laid7 w) (fun _ _ _ hh h => h.of_heap hh) own started (by kernel_rfl) Tryz.func6
    (ChangeSpec.witness_shaped (enc := enc) (C := Tryz.checked) (os := os) (X := fun w _ => laidMetH Tryz.prog laid7 w) false (World.laidAll Tryz.prog os laid7) #[.slice none 0 0] 8 (World.laidAll_os _ _ _)
      (World.shaped_of_ZipB (by kernel_rfl) (by kernel_rfl)) (by kernel_rfl) (by kernel_rfl) (by kernel_rfl)
      (by rw [MakeChecks.laidMetH_plain _ _ _ (by kernel_rfl)]; exact laidMet_laidAll _ (by kernel_rfl) (by kernel_rfl))) ?_
  intro W base args ds gs before hval0 hW hsz0 hL hsh
  have hval : ∀ (j : Nat) t v, Tryz.f6.params[j]? = some t → args[j]? = some v → Value.okWide Tryz.prog W .any base t v := hval0
  have hW' := hW
  obtain ⟨p, q, hA0, hV, rfl, hfz, hnd⟩ := hW
  have hA : DataW.TrodAll enc Tryz.prog W 0 (fun _ => true) true Tryz.f6.params.toList args.toList ds p := hA0
  rw [Tryz.params6] at hA hval
  obtain ⟨v0, d0, rfl, rfl, h0⟩ := trodAll_one hA
  obtain ⟨rfl, rfl⟩ := trodVars_none hV
  have h0k := h0
  obtain ⟨fuel, hf⟩ := h0
  clear hA0 hval0
  simp only [List.append_nil] at hW'
  have hlt : ∀ x ∈ p, x.block < W.heap.size := fun x hx => by simpa using hW'.lt x hx
  have hargs : ∀ (W' : World), Below W.heap.size W W' → DataW.Trod enc Tryz.prog W' 0 (fun b => decide (b < W.heap.size)) true 42 v0 d0 p :=
    fun W' hn => Below.trod laidOut (by kernel_rfl) (of_decide_eq_true (by kernel_rfl)) h0k hn hlt
  obtain ⟨a0, len, cap, rfl⟩ := okWide_slice Tryz.underlying42 (hval 0 42 v0 rfl rfl)
  rcases open_strs Tryz.underlying42 Tryz.underlying9 cells9 hf with ⟨hcs, hx⟩ | ⟨a, len', cap', m, Sx, hcs, _, hl, hm, hmm, hx, hcell⟩
  · simp [Value.cells] at hcs
    obtain ⟨rfl, rfl, rfl⟩ := hcs
    refine (walk none 0 0 0 0 [] rfl (by decide) (fun h => absurd rfl h) W (env_of hsh hL) (fun j hj => absurd hj (by simp))).mono fun e W' ⟨he, hg⟩ => ?_
    subst he
    exact ⟨_, rfl, _, _, _, [], _, [], hW', trodAll_mk1 (shut_bool Tryz.underlying4 _), trodAll_mk1 (hargs W' hg.b), rfl, hg.b.frame _, fun h => by cases h⟩
  · simp [Value.cells] at hcs
    obtain ⟨rfl, rfl, rfl⟩ := hcs
    have hlm : len ≤ m := by rw [hmm]; split <;> omega
    obtain ⟨k1, k2⟩ := texts_of a len Sx (fun i hi => (hcell i (by omega)).1)
    refine (walk (some a) len cap a.block a.off _ (by simp) (by omega) k1 W (env_of hsh hL) k2).mono fun e W' ⟨he, hg⟩ => ?_
    subst he
    exact ⟨_, rfl, _, _, _, [], _, [], hW', trodAll_mk1 (shut_bool Tryz.underlying4 _), trodAll_mk1 (hargs W' hg.b), rfl, hg.b.frame _, fun h => by cases h⟩

set_option maxHeartbeats 4000000 in
set_option maxRecDepth 100000 in
/-- The row's closed facts, each by the kernel. -/
theorem facts : joinedFacts Tryz.pinned.checked.prog 6 Tryz.f6 Rows.unitsSumsSpec Rows.unitsSumsRow = true := by
  unfold joinedFacts
  repeat' (with_reducible refine andI ?_ ?_)
  all_goals (as_aux_lemma => kernel_rfl)
set_option maxHeartbeats 4000000 in
set_option maxRecDepth 100000 in
theorem over : Rows.unitsSumsRow.holds Tryz.pinned (OpenSpec.ofChange Rows.unitsSumsSpec) :=
  OpenClaim.holds_of_wide 6 Tryz.f6 rfl rfl rfl rfl rfl rfl rfl ⟨rfl, rfl, rfl, rfl, rfl⟩ rfl rfl rfl rfl rfl (by as_aux_lemma => kernel_rfl) Tryz.func6 facts
    (of_decide_eq_true (by as_aux_lemma => kernel_rfl)) (by unfold Func.isWrapper; first | (rw [if_pos (by decide +kernel)]; kernel_rfl) | (rw [if_neg (by decide +kernel)]; exact ⟨rfl, rfl⟩))
    (fun os started H enc _ => lifted os started H enc)


set_option maxHeartbeats 4000000 in
set_option maxRecDepth 100000 in
/-- The card: the row, its listed variables tied to the program's text. -/
theorem card : Rows.UnitsSumsCardSaid :=
  Claim7.holds_tied_plain_at .later [] [.data, .data, .data, .data, .sentinel, .sentinel, .pinned] true (true, "d07e2a9c964c5a64dd3a879437d40ecd30a77628cd906bd69d0a9e29ea0f0de4") true
    over (fun _ h => by cases h) (by as_aux_lemma => kernel_rfl) (fun _ h => by cases h) unitsSums_row_tie rfl ⟨rfl, rfl⟩ (by as_aux_lemma => kernel_rfl) rfl
    (fun f fn hf hfn => by
      obtain rfl : f = 6 := Option.some.inj ((show Tryz.prog.funcNamed "metrolab/metrolablaw13.UnitsSums" = some 6 by as_aux_lemma => kernel_rfl).symm.trans hf) |>.symm
      obtain rfl : fn = Tryz.f6 := (Option.some.inj (Tryz.func6.symm.trans hfn)).symm
      exact ⟨by as_aux_lemma => kernel_rfl, fun j t ht => by
        rw [Tryz.params6] at ht
        have hm : t ∈ [42] := by simpa using Array.mem_of_getElem? ht
        have hall : ([42].all fun u => !Tryz.prog.wantsStandIn u) = true := by as_aux_lemma => kernel_rfl
        exact (show Tryz.prog.wantsStandIn t = false by simpa using List.all_eq_true.1 hall t hm)⟩)
    (by as_aux_lemma => kernel_rfl)
end Go.Proofs.YtlmdpamehhcblaaGreatDoor.unitsSums
