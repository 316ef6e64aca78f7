import Derived.Test.YtlmdpamehhcblaaGreatDoorUn
import Derived.Lib.SlTrimSet
import Derived.Lib.Repeat
/- Plain laws: lengths written in units. No program in sight. -/
namespace Go.Proofs.YtlmdpamehhcblaaGreatDoorD
open Go.Lib

/-- A number's digits, at least one more than there are behind the point. -/
def upad (n p : Nat) : List UInt8 := if (decDigits n).length ≤ p then List.replicate (p + 1 - (decDigits n).length) 48 ++ decDigits n else decDigits n
def urest (n p : Nat) : List UInt8 := trimRightS ((upad n p).drop ((upad n p).length - p)) [48]
/-- A number of parts of a power of ten, with a point where it is needed. -/
def upointed (n p : Nat) : List UInt8 :=
  if urest n p = [] then (upad n p).take ((upad n p).length - p) else (upad n p).take ((upad n p).length - p) ++ 46 :: urest n p
def udiv (m u : Nat) : Rat := mkRat ((m : Int) * ((uval u).den : Int)) (1 * (uval u).num.natAbs)
def uplace (u : Nat) : Int := uplaces.getD u 0
/-- The number of units that m micrometres are, as text. -/
def ubody (m u : Nat) : List UInt8 := if 0 ≤ uplace u then upointed m (uplace u).toNat else rtext (udiv m u)
def uformat (um unit : Int) : Except Int (List UInt8) :=
  if um < -100000 ∨ 100000 < um then .error 2
  else if 0 ≤ unit ∧ unit < 5 then .ok ((if um < 0 then [45] else []) ++ ubody um.natAbs unit.toNat ++ 32 :: uword unit.toNat)
  else .error 20
theorem decDigits_len7 {n : Nat} (h : n ≤ 1000000) : (decDigits n).length ≤ 7 := by
  rw [decDigits_len]
  exact (nDigits_le_iff n 7 (by decide)).2 (by
    have : (10 : Nat) ^ 7 = 10000000 := by decide
    omega)
theorem upad_len {n p : Nat} (h : n ≤ 1000000) (hp : p ≤ 4) : p < (upad n p).length ∧ (upad n p).length ≤ 7 := by
  have := decDigits_len7 h
  unfold upad
  split
  · rw [List.length_append, List.length_replicate]; omega
  · omega
theorem urest_len {n p : Nat} (h : n ≤ 1000000) (hp : p ≤ 4) : (urest n p).length ≤ 7 := by
  have := (upad_len h hp).2
  unfold urest trimRightS
  rw [List.length_reverse]
  have h1 := (List.dropWhile_sublist (fun x => [48].contains x) (l := (List.drop ((upad n p).length - p) (upad n p)).reverse)).length_le
  rw [List.length_reverse, List.length_drop] at h1
  omega
theorem repeat_zeros (k : Nat) : repeatL [48] k = List.replicate k 48 := by
  induction k with
  | zero => rfl
  | succ k ih => show [48] ++ repeatL [48] k = _; rw [ih]; rfl
end Go.Proofs.YtlmdpamehhcblaaGreatDoorD
