/- Numbers as bytes, the lowest first. -/
import Derived.Test.YtlpcbfndjffpfaaAbs20
set_option linter.unusedVariables false
set_option linter.unnecessarySimpa false
set_option linter.unusedSimpArgs false
namespace Go.Abs

def le (n : Nat) : Nat → List UInt8
  | 0 => []
  | s + 1 => UInt8.ofNat (n % 256) :: le (n / 256) s
theorem le_length (n s : Nat) : (le n s).length = s := by
  induction s generalizing n with
  | zero => rfl
  | succ s ih => simp [le, ih]
theorem le_succ (n s : Nat) : le n (s + 1) = le n s ++ [UInt8.ofNat (n / 256 ^ s % 256)] := by
  induction s generalizing n with
  | zero => simp [le]
  | succ s ih =>
    rw [le, ih (n / 256), le]
    simp only [List.cons_append, Nat.div_div_eq_div_mul]
    rw [Nat.pow_succ, Nat.mul_comm (256 ^ s) 256]
theorem le_mod (n s m : Nat) (h : m = 256 ^ s) : le (n % m) s = le n s := by
  subst h
  induction s generalizing n with
  | zero => rfl
  | succ s ih =>
    simp only [le]
    have h1 : n % 256 ^ (s + 1) % 256 = n % 256 := Nat.mod_mod_of_dvd _ ⟨256 ^ s, by rw [Nat.pow_succ, Nat.mul_comm]⟩
    have h2 : n % 256 ^ (s + 1) / 256 = n / 256 % 256 ^ s := by
      rw [Nat.pow_succ, Nat.mul_comm, Nat.mod_mul_right_div_self]
    rw [h1, h2, ih]
end Go.Abs
