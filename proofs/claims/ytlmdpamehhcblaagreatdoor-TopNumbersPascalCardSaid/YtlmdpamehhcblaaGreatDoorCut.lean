import Derived.Test.YtlmdpamehhcblaaGreatDoorRat
import Derived.Lib.IndexMore
/- Plain laws: a text cut at the first place of a byte. No program in sight. -/
namespace Go.Proofs.YtlmdpamehhcblaaGreatDoorD
open Go.Lib

/-- What stands ahead of the first c, and behind it; whether it is there. -/
def cutc (c : UInt8) (l : List UInt8) : List UInt8 × List UInt8 × Bool :=
  if c ∈ l then (l.takeWhile (· != c), (l.dropWhile (· != c)).tail, true) else (l, [], false)
theorem index_cons (b c : UInt8) (l : List UInt8) : index (b :: l) [c] = if b = c then 0 else if index l [c] = -1 then -1 else index l [c] + 1 := by
  rw [index]
  by_cases h : b = c
  · subst h; simp [List.isPrefixOf]
  · have h2 : (c == b) = false := by simp; exact fun e => h e.symm
    simp [List.isPrefixOf, h, h2]
theorem index_mem (c : UInt8) : ∀ l : List UInt8, (c ∈ l → 0 ≤ index l [c] ∧ l.take (index l [c]).toNat = l.takeWhile (· != c) ∧ l.drop ((index l [c]).toNat + 1) = (l.dropWhile (· != c)).tail) ∧ (c ∉ l → index l [c] = -1)
  | [] => ⟨fun h => by simp at h, fun _ => by simp [index]⟩
  | b :: l => by
    rw [index_cons]
    by_cases h : b = c
    · subst h
      simp
    · rw [if_neg h]
      have hne : (b != c) = true := by simpa using h
      constructor
      · intro hm
        have hl : c ∈ l := by
          rcases List.mem_cons.1 hm with e | e
          · exact absurd e.symm h
          · exact e
        obtain ⟨h0, h1, h2⟩ := (index_mem c l).1 hl
        rw [if_neg (by omega)]
        obtain ⟨k, hk⟩ := Int.eq_ofNat_of_zero_le h0
        rw [hk] at h1 h2 ⊢
        rw [show ((k : Int) + 1).toNat = k + 1 by omega]
        rw [Int.toNat_natCast] at h1 h2
        rw [List.takeWhile_cons_of_pos (p := (· != c)) hne, List.dropWhile_cons_of_pos (p := (· != c)) hne, ← h1, ← h2]
        exact ⟨by omega, rfl, rfl⟩
      · intro hm
        have hl : c ∉ l := fun e => hm (List.mem_cons_of_mem _ e)
        rw [if_pos ((index_mem c l).2 hl)]
theorem cut_eq (c : UInt8) (l : List UInt8) : cut l [c] = cutc c l := by
  unfold cut cutc
  by_cases h : c ∈ l
  · obtain ⟨h0, h1, h2⟩ := (index_mem c l).1 h
    rw [if_pos h0, if_pos h, h1]
    show (_, l.drop ((index l [c]).toNat + 1), true) = _
    rw [h2]
  · rw [(index_mem c l).2 h, if_neg (by decide), if_neg h]
theorem cutc_none {c : UInt8} {l : List UInt8} (h : c ∉ l) : cutc c l = (l, [], false) := by unfold cutc; rw [if_neg h]
theorem cutc_some {c : UInt8} {l m : List UInt8} (h : c ∉ l) : cutc c (l ++ c :: m) = (l, m, true) := by
  unfold cutc
  rw [if_pos (by simp)]
  have h1 : ∀ b ∈ l, (b != c) = true := fun b hb => by simp; intro e; rw [e] at hb; exact h hb
  rw [List.takeWhile_append_of_pos h1, List.dropWhile_append_of_pos h1]
  simp
theorem cutc_rtext (q : Rat) : cutc 47 (rtext q) = if q.den = 1 then (itoa q.num, [], false) else (itoa q.num, decDigits q.den, true) := by
  unfold rtext
  by_cases h : q.den = 1
  · rw [if_pos h, if_pos h, cutc_none (itoa_no47 _)]
  · rw [if_neg h, if_neg h, cutc_some (itoa_no47 _)]
theorem cutc_spec (c : UInt8) (l : List UInt8) : (c ∈ l ∧ (cutc c l).2.2 = true ∧ l = (cutc c l).1 ++ c :: (cutc c l).2.1 ∧ c ∉ (cutc c l).1) ∨ (c ∉ l ∧ cutc c l = (l, [], false)) := by
  by_cases h : c ∈ l
  · left
    unfold cutc
    rw [if_pos h]
    refine ⟨h, rfl, ?_, ?_⟩
    · have e := List.takeWhile_append_dropWhile (p := (· != c)) (l := l)
      cases hd : l.dropWhile (· != c) with
      | nil =>
        rw [hd, List.append_nil] at e
        rw [← e] at h
        have := List.all_eq_true.1 (List.all_takeWhile (p := (· != c)) (l := l)) _ h
        simp at this
      | cons b r =>
        have hb : b = c := by
          have := List.head_dropWhile_not (p := (· != c)) (l := l) (by rw [hd]; simp)
          simp [hd] at this
          exact this
        rw [hd, hb] at e
        exact e.symm
    · intro hm
      have := List.all_eq_true.1 (List.all_takeWhile (p := (· != c)) (l := l)) _ hm
      simp at this
  · exact .inr ⟨h, cutc_none h⟩
end Go.Proofs.YtlmdpamehhcblaaGreatDoorD
