import Derived.Test.YtlmdpamehhcblaaGreatDoorPb
import Derived.Test.YtlmdpamehhcblaaGreatDoorLib
/- Contracts of the lexer: class. -/
namespace Go.Proofs.YtlmdpamehhcblaaGreatDoor
open Go.RowKit
open Go.Lib (itoa decDigits)
open YtlmdpamehhcblaaGreatDoorD (isDig isLet cls marks)

def clsI (n : Nat) (i : Int) : Nat := if (97 ≤ n ∧ n ≤ 122) ∨ (65 ≤ n ∧ n ≤ 90) then 1 else if 48 ≤ n ∧ n ≤ 57 then 2 else if n = 95 then 3 else if n = 32 then 5 else if 0 ≤ i then 4 else 0
theorem cls_all : (List.range 256).all (fun n => cls (UInt8.ofNat n) == clsI n (Lib.indexByte marks (UInt8.ofNat n))) = true := by kernel_rfl
theorem cls_I (c : UInt8) : cls c = clsI c.toNat (Lib.indexByte marks c) := by
  have h := List.all_eq_true.1 cls_all c.toNat (List.mem_range.2 (UInt8.toNat_lt c))
  rw [show UInt8.ofNat c.toNat = c by simp] at h
  exact eq_of_beq h
set_option maxHeartbeats 1000000 in
set_option maxRecDepth 20000 in
theorem class_c (w : World) (c : UInt8) : Calls Tryz.prog 121 #[.int .u8 (c.toNat : Int)] w fun e w' => e = .returned (.int .i64 (cls c : Nat)) ∧ w' = w := by
  have hI := IndexByte_c w marks (c.toNat : Int)
  have e1 : bs marks = { data := #[44, 59, 58, 40, 41, 91, 93, 61, 43, 45, 42, 47, 60, 62, 124, 35] } := rfl
  have e2 : ((c.toNat : Int)).toNat.toUInt8 = c := by simp
  rw [e1, e2] at hI
  have hc : c.toNat < 256 := UInt8.toNat_lt c
  rw [cls_I c]
  generalize Lib.indexByte marks c = i at *
  generalize c.toNat = n at *
  clear e1 e2 c
  obtain ⟨r, hr⟩ : ∃ r : Nat, r = clsI n i := ⟨_, rfl⟩
  rw [← hr]
  unfold clsI at hr
  have HR := Lib.hid hr
  have HI := Lib.hid hI
  clear hr hI
  rcases (show n < 32 ∨ n = 32 ∨ (32 < n ∧ n < 48) ∨ (48 ≤ n ∧ n ≤ 57) ∨ (57 < n ∧ n < 65) ∨ (65 ≤ n ∧ n ≤ 90) ∨ (90 < n ∧ n < 95) ∨ n = 95 ∨ (95 < n ∧ n < 97) ∨ (97 ≤ n ∧ n ≤ 122) ∨ 122 < n by omega) with h | h | h | h | h | h | h | h | h | h | h <;> by_cases hi : 0 ≤ i
  all_goals (
    go_enter Tryz.func121, Tryz.ntmps121
    go_wp2_with fail
    try (refine HI.out.mono ?_; rintro e w1 ⟨rfl, rfl⟩; go_wp2_with fail)
    go_ret
    refine ⟨ret_int ?_, rfl⟩
    have := HR.out
    subst this
    try simp [hi]
    repeat' split
    all_goals omega)
end Go.Proofs.YtlmdpamehhcblaaGreatDoor
