/- Ways brought together; the first of several conditions that fails. -/
import Derived.Test.YtlpcbfndjffpfaaAbs29
set_option linter.unusedVariables false
namespace Go.Abs
/-- What is known behind a piece of code that is left at its end alone. -/
def Mid (mid : List AV → Mem → Prop) : Ex → List AV → Mem → Prop
  | .norm => mid
  | _ => fun _ _ => False
theorem W_mid {P : Program} {c : Code} {Q : Ex → List AV → Mem → Prop} {env : List AV} {M : Mem} (mid : List AV → Mem → Prop) (h : W P c (Mid mid) env M) (hq : ∀ env' M', mid env' M' → Q .norm env' M') : W P c Q env M :=
  W_mono h fun e env' M' hm => match e, hm with | .norm, hm => hq env' M' hm
section
@[go_sem high] theorem set_by8 {a0 a1 a2 a3 a4 a5 a6 a7 : AV} {l : List AV} {n : Nat} {v : AV} : (a0 :: a1 :: a2 :: a3 :: a4 :: a5 :: a6 :: a7 :: l).set (n + 8) v = a0 :: a1 :: a2 :: a3 :: a4 :: a5 :: a6 :: a7 :: l.set n v := (rfl)
@[go_sem high] theorem getD_by8 {a0 a1 a2 a3 a4 a5 a6 a7 : AV} {l : List AV} {n : Nat} {v : AV} : (a0 :: a1 :: a2 :: a3 :: a4 :: a5 :: a6 :: a7 :: l).getD (n + 8) v = l.getD n v := by simp [List.getD]
end
section
@[go_sem high] theorem set_by32 {a0 a1 a2 a3 a4 a5 a6 a7 a8 a9 a10 a11 a12 a13 a14 a15 a16 a17 a18 a19 a20 a21 a22 a23 a24 a25 a26 a27 a28 a29 a30 a31 : AV} {l : List AV} {n : Nat} {v : AV} : (a0 :: a1 :: a2 :: a3 :: a4 :: a5 :: a6 :: a7 :: a8 :: a9 :: a10 :: a11 :: a12 :: a13 :: a14 :: a15 :: a16 :: a17 :: a18 :: a19 :: a20 :: a21 :: a22 :: a23 :: a24 :: a25 :: a26 :: a27 :: a28 :: a29 :: a30 :: a31 :: l).set (n + 32) v = a0 :: a1 :: a2 :: a3 :: a4 :: a5 :: a6 :: a7 :: a8 :: a9 :: a10 :: a11 :: a12 :: a13 :: a14 :: a15 :: a16 :: a17 :: a18 :: a19 :: a20 :: a21 :: a22 :: a23 :: a24 :: a25 :: a26 :: a27 :: a28 :: a29 :: a30 :: a31 :: l.set n v := (rfl)
@[go_sem high] theorem getD_by32 {a0 a1 a2 a3 a4 a5 a6 a7 a8 a9 a10 a11 a12 a13 a14 a15 a16 a17 a18 a19 a20 a21 a22 a23 a24 a25 a26 a27 a28 a29 a30 a31 : AV} {l : List AV} {n : Nat} {v : AV} : (a0 :: a1 :: a2 :: a3 :: a4 :: a5 :: a6 :: a7 :: a8 :: a9 :: a10 :: a11 :: a12 :: a13 :: a14 :: a15 :: a16 :: a17 :: a18 :: a19 :: a20 :: a21 :: a22 :: a23 :: a24 :: a25 :: a26 :: a27 :: a28 :: a29 :: a30 :: a31 :: l).getD (n + 32) v = l.getD n v := by simp [List.getD]
end
theorem ff2 (a b : Bool) : a = false ∨ (a = true ∧ b = false) ∨ (a = true ∧ b = true) := by cases a <;> cases b <;> simp
theorem ff3 (a b c : Bool) : a = false ∨ (a = true ∧ b = false) ∨ (a = true ∧ b = true ∧ c = false) ∨ (a = true ∧ b = true ∧ c = true) := by cases a <;> cases b <;> cases c <;> simp
theorem ff4 (a b c d : Bool) : a = false ∨ (a = true ∧ b = false) ∨ (a = true ∧ b = true ∧ c = false) ∨ (a = true ∧ b = true ∧ c = true ∧ d = false) ∨ (a = true ∧ b = true ∧ c = true ∧ d = true) := by cases a <;> cases b <;> cases c <;> cases d <;> simp
theorem ff5 (a b c d e : Bool) : a = false ∨ (a = true ∧ b = false) ∨ (a = true ∧ b = true ∧ c = false) ∨ (a = true ∧ b = true ∧ c = true ∧ d = false) ∨ (a = true ∧ b = true ∧ c = true ∧ d = true ∧ e = false) ∨ (a = true ∧ b = true ∧ c = true ∧ d = true ∧ e = true) := by cases a <;> cases b <;> cases c <;> cases d <;> cases e <;> simp
theorem ff6 (a b c d e f : Bool) : a = false ∨ (a = true ∧ b = false) ∨ (a = true ∧ b = true ∧ c = false) ∨ (a = true ∧ b = true ∧ c = true ∧ d = false) ∨ (a = true ∧ b = true ∧ c = true ∧ d = true ∧ e = false) ∨ (a = true ∧ b = true ∧ c = true ∧ d = true ∧ e = true ∧ f = false) ∨ (a = true ∧ b = true ∧ c = true ∧ d = true ∧ e = true ∧ f = true) := by cases a <;> cases b <;> cases c <;> cases d <;> cases e <;> cases f <;> simp
theorem ff7 (a b c d e f g : Bool) : a = false ∨ (a = true ∧ b = false) ∨ (a = true ∧ b = true ∧ c = false) ∨ (a = true ∧ b = true ∧ c = true ∧ d = false) ∨ (a = true ∧ b = true ∧ c = true ∧ d = true ∧ e = false) ∨ (a = true ∧ b = true ∧ c = true ∧ d = true ∧ e = true ∧ f = false) ∨ (a = true ∧ b = true ∧ c = true ∧ d = true ∧ e = true ∧ f = true ∧ g = false) ∨ (a = true ∧ b = true ∧ c = true ∧ d = true ∧ e = true ∧ f = true ∧ g = true) := by
  cases a <;> cases b <;> cases c <;> cases d <;> cases e <;> cases f <;> cases g <;> simp
theorem ff8 (a b c d e f g h : Bool) : a = false ∨ (a = true ∧ b = false) ∨ (a = true ∧ b = true ∧ c = false) ∨ (a = true ∧ b = true ∧ c = true ∧ d = false) ∨ (a = true ∧ b = true ∧ c = true ∧ d = true ∧ e = false) ∨ (a = true ∧ b = true ∧ c = true ∧ d = true ∧ e = true ∧ f = false) ∨ (a = true ∧ b = true ∧ c = true ∧ d = true ∧ e = true ∧ f = true ∧ g = false) ∨ (a = true ∧ b = true ∧ c = true ∧ d = true ∧ e = true ∧ f = true ∧ g = true ∧ h = false) ∨ (a = true ∧ b = true ∧ c = true ∧ d = true ∧ e = true ∧ f = true ∧ g = true ∧ h = true) := by
  cases a
  · exact .inl rfl
  · rcases ff7 b c d e f g h with h | h | h | h | h | h | h | h <;> simp [h]
end Go.Abs
