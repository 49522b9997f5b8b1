/- Numbers by sevens of bits: plain. -/
import Derived.Test.YtmokhopjnjecbaaPSum
namespace Go.Ev
set_option linter.unusedVariables false
/-- Sevens of bits, the least first. -/
def lowS : List Nat → Nat
  | [] => 0
  | b :: l => b % 128 + 128 * lowS l
/-- How many bytes a number has that bytes begin with; none: there is none. -/
def takeGo : Nat → List Nat → Option Nat
  | _, [] => none
  | k, b :: l => if 9 ≤ k then none else if 128 ≤ b then takeGo (k + 1) l else if b = 0 ∧ 0 < k then none else some (k + 1)
theorem lowS_append (a b : List Nat) : lowS (a ++ b) = lowS a + 128 ^ a.length * lowS b := by
  induction a with
  | nil => simp [lowS]
  | cons x a ih => simp only [List.cons_append, lowS, ih, List.length_cons, Nat.pow_succ]; rw [Nat.mul_add, ← Nat.mul_assoc, Nat.mul_comm 128 (128 ^ a.length), ← Nat.add_assoc]
theorem lowS_lt (a : List Nat) : lowS a < 128 ^ a.length := by
  induction a with
  | nil => simp [lowS]
  | cons x a ih => simp only [lowS, List.length_cons, Nat.pow_succ]; omega
theorem takeGo_some : ∀ (l : List Nat) (k n : Nat), takeGo k l = some n → k < n ∧ n ≤ 9 ∧ n ≤ k + l.length
  | [], k, n, h => by simp [takeGo] at h
  | b :: l, k, n, h => by
    simp only [takeGo] at h
    split at h
    · cases h
    · split at h
      · have := takeGo_some l (k + 1) n h
        simp only [List.length_cons]; omega
      · split at h
        · cases h
        · simp only [Option.some.injEq] at h; subst h
          simp only [List.length_cons]; omega
theorem ibits_or (k : IntKind) (hk : k.signed = false) (a b : Nat) (ha : a < 2 ^ k.bits) (hb : b < 2 ^ k.bits) : ibits .or k a b = ((a ||| b : Nat) : Int) := by
  simp only [ibits, BitVec.toNat_or, bv_toNat _ _ ha, bv_toNat _ _ hb]
  exact wrap_nat k hk _ (Nat.or_lt_two_pow ha hb)
theorem and128 : ∀ b : Fin 256, ibits .andNot .u8 (b.1 : Int) 128 = ((b.1 % 128 : Nat) : Int) := by decide +kernel
theorem and128' : ∀ b : Fin 256, (ibits .and .u8 (b.1 : Int) 128 = 0) ↔ b.1 < 128 := by decide +kernel
/-- One more seven of bits. -/
theorem or_step (v k x : Nat) (hv : v < 128 ^ k) (hk : k ≤ 8) (hx : x < 128) : ibits .or .u64 (v : Int) ((x * 2 ^ (7 * k) : Nat) : Int) = ((v + 128 ^ k * x : Nat) : Int) := by
  have e : 128 ^ k = 2 ^ (7 * k) := by rw [Nat.pow_mul]
  rw [e] at hv ⊢
  have h1 : 2 ^ (7 * k) ≤ 2 ^ 56 := Nat.pow_le_pow_right (by omega) (by omega)
  have h2 : x * 2 ^ (7 * k) ≤ 127 * 2 ^ 56 := Nat.mul_le_mul (by omega) h1
  rw [ibits_or .u64 rfl v _ (by show _ < 2 ^ 64; omega) (by show _ < 2 ^ 64; omega), Nat.or_comm, Nat.mul_comm x, ← Nat.two_pow_add_eq_or_of_lt hv, Nat.add_comm]
end Go.Ev
