import Derived.Test.YtlmdpamehhcblaaGreatDoorWb
/- Contracts of package whole: trimmed. -/
namespace Go.Proofs.YtlmdpamehhcblaaGreatDoor
open Go.RowKit
open YtlmdpamehhcblaaGreatDoorV (wd nw B upd)

/-- What trimmed leaves. -/
def Trim (w : World) (g : Nat) (less : Bool) (n : Nat) (f : Nat → Int) (e : Ending) (w' : World) : Prop :=
  e = .returned (.pointer (some ⟨g, 0, none⟩)) ∧ ∃ m : Nat, m ≤ n ∧ WB w' g less m f ∧ (∀ j, m ≤ j → j < n → f j = 0) ∧ (m ≠ 0 → f (m - 1) ≠ 0) ∧ Fr g w w'

set_option maxHeartbeats 1000000 in
set_option maxRecDepth 100000 in
theorem trimmed_c (w : World) (g : Nat) (less : Bool) (n : Nat) (f : Nat → Int) (hw : WB w g less n f) (hn : n ≤ 232) :
    Calls Tryz.prog 179 #[.pointer (some ⟨g, 0, none⟩)] w (Trim w g less n f) := by
  have HW := Lib.hid hw; clear hw
  go_enter Tryz.func179, Tryz.ntmps179
  go_wp2
  go_loopg [] n (fun k wr => k ≤ n ∧ Aside (WB wr g less k f ∧ (∀ j, k ≤ j → j < n → f j = 0)) ∧ Fr g w wr)
  case atStart => exact ⟨Nat.le_refl _, ⟨HW.out, fun j h1 h2 => by omega⟩, Fr.refl _ _⟩
  case round =>
    obtain ⟨hk, A, hfr⟩ := hrel
    have c1 := A.out.1.c1
    have f1 := A.out.1.fz 1
    by_cases h0 : gk = 0
    · subst h0
      go_wp2_with fail
      go_quiet (fail)
      go_wp2
      go_ret
      exact ⟨rfl, 0, by omega, A.out.1, A.out.2, fun h => absurd rfl h, hfr.drewN _⟩
    · obtain ⟨m, rfl⟩ : ∃ m, gk = m + 1 := ⟨gk - 1, by omega⟩
      have cw := A.out.1.cw m (by omega)
      have hm : m ≤ 232 := by omega
      by_cases hz : f m = 0
      · rw [hz] at cw
        go_wp2_with fail
        go_quiet (fail)
        go_wp2
        go_roundg m
        case measure => omega
        case rel =>
          refine ⟨by omega, ⟨?_, fun j h1 h2 => ?_⟩, ?_⟩
          · have := (A.out.1.drewN nq).set1 m
            simpa using this
          · by_cases e : j = m
            · rw [e]; exact hz
            · exact A.out.2 j (by omega) h2
          · exact (hfr.drewN _).setCell rfl _
      · have hz' : (f m == 0) = false := by simpa using hz
        go_wp2_with fail
        go_quiet (fail)
        go_wp2
        go_ret
        exact ⟨rfl, m + 1, by omega, A.out.1, A.out.2, fun _ => hz, hfr.drewN _⟩
end Go.Proofs.YtlmdpamehhcblaaGreatDoor
