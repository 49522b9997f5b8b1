/- Whole numbers of the machine's kinds, as naturals; the sums by arithmetic alone. -/
import Derived.Test.YtmokhopjnjecbaaEvQ
set_option linter.unusedSimpArgs false
namespace Go.Ev
set_option linter.unusedVariables false

theorem bv_toNat (n a : Nat) (h : a < 2 ^ n) : (BitVec.ofInt n (a : Int)).toNat = a := by
  rw [BitVec.toNat_ofInt]
  have : ((a : Int) % ((2 ^ n : Nat) : Int)).toNat = a := by
    rw [← Int.natCast_emod, Int.toNat_natCast, Nat.mod_eq_of_lt h]
  exact this
theorem wrap_nat (k : IntKind) (hk : k.signed = false) (a : Nat) (h : a < 2 ^ k.bits) : k.wrap (a : Int) = (a : Int) := by
  have : ((a : Int) % ((2 ^ k.bits : Nat) : Int)) = (a : Int) := by
    rw [← Int.natCast_emod, Nat.mod_eq_of_lt h]
  have e : ((2 : Int) ^ k.bits) = ((2 ^ k.bits : Nat) : Int) := by simp
  simp only [IntKind.wrap, hk, Bool.false_and, Bool.false_eq_true, if_false, e, this]
theorem ibits_xor (k : IntKind) (hk : k.signed = false) (a b : Nat) (ha : a < 2 ^ k.bits) (hb : b < 2 ^ k.bits) : ibits .xor k a b = ((a ^^^ b : Nat) : Int) := by
  simp only [ibits, BitVec.toNat_xor, bv_toNat _ _ ha, bv_toNat _ _ hb]
  exact wrap_nat k hk _ (Nat.xor_lt_two_pow ha hb)
theorem ibits_and (k : IntKind) (hk : k.signed = false) (a b : Nat) (ha : a < 2 ^ k.bits) (hb : b < 2 ^ k.bits) : ibits .and k a b = ((a &&& b : Nat) : Int) := by
  simp only [ibits, BitVec.toNat_and, bv_toNat _ _ ha, bv_toNat _ _ hb]
  exact wrap_nat k hk _ (Nat.lt_of_le_of_lt Nat.and_le_left ha)
theorem ishr_nat (k k2 : IntKind) (a b : Nat) (hb : b ≤ k.bits) : ishr k a b = ((a / 2 ^ b : Nat) : Int) := by
  have h1 : min (Int.toNat (b : Int)) k.bits = b := by rw [Int.toNat_natCast]; exact Nat.min_eq_left hb
  simp only [ishr, h1]
  have e : ((2 : Int) ^ b) = ((2 ^ b : Nat) : Int) := by simp
  rw [e, Int.fdiv_eq_ediv_of_nonneg _ (Int.natCast_nonneg _)]
  simp
/-- Bytes. -/
def avs (bs : List Nat) : List AV := bs.map fun (b : Nat) => .int .u8 (b : Int)
theorem avs_get (bs : List Nat) (i : Nat) : (avs bs)[i]? = (bs[i]?).map fun (b : Nat) => AV.int .u8 (b : Int) := by simp [avs]
theorem avs_len (bs : List Nat) : (avs bs).length = bs.length := by simp [avs]
theorem frz_ints {α : Type} (n : Nat) (H : Heap) : ∀ (bs : List Nat) (ok : List AV → List (Nat × Nat) → α) (bad : α), mapK (frzK (n + 1) H) (avs bs) ok bad = ok (avs bs) []
  | [], ok, bad => rfl
  | b :: bs, ok, bad => by
    have ih := frz_ints (α := α) n H bs
    simp only [avs, List.map_cons, mapK, frzK] at ih ⊢
    rw [ih]; rfl

def cstep (s : Nat) : Nat := if s % 2 = 1 then (s / 2) ^^^ 2197175160 else s / 2
def csteps : Nat → Nat → Nat
  | 0, s => s
  | n + 1, s => csteps n (cstep s)
def add (s b : Nat) : Nat := csteps 8 (s ^^^ b)
def crcOf (bs : List Nat) : Nat := (bs.foldl add 4294967295) ^^^ 4294967295
theorem cstep_lt {s : Nat} (h : s < 2 ^ 32) : cstep s < 2 ^ 32 := by
  unfold cstep
  have h2 : s / 2 < 2 ^ 32 := by omega
  split
  · exact Nat.xor_lt_two_pow h2 (by decide)
  · exact h2
theorem csteps_lt : ∀ (n : Nat) {s : Nat}, s < 2 ^ 32 → csteps n s < 2 ^ 32
  | 0, _, h => h
  | n + 1, _, h => csteps_lt n (cstep_lt h)
theorem add_lt {s b : Nat} (hs : s < 2 ^ 32) (hb : b < 256) : add s b < 2 ^ 32 := csteps_lt 8 (Nat.xor_lt_two_pow hs (by omega))
theorem fold_lt : ∀ (bs : List Nat) {s : Nat}, s < 2 ^ 32 → (∀ b ∈ bs, b < 256) → bs.foldl add s < 2 ^ 32
  | [], _, h, _ => h
  | b :: bs, _, h, hb => fold_lt bs (add_lt h (hb b (List.mem_cons_self))) (fun c hc => hb c (List.mem_cons_of_mem _ hc))

def rbit (r b j : Nat) : Nat := (r % 2) ^^^ ((b / 2 ^ j) % 2)
def rstep (r b j : Nat) : Nat := if rbit r b j = 1 then (r / 2) ^^^ 2197175160 else r / 2
def rsteps : Nat → Nat → Nat → Nat → Nat
  | 0, r, _, _ => r
  | n + 1, r, b, j => rsteps n (rstep r b j) b (j + 1)
theorem xor_half (x y : Nat) : (x ^^^ y) / 2 = x / 2 ^^^ y / 2 := by
  have := @Nat.shiftRight_xor_distrib 1 x y
  simpa [Nat.shiftRight_eq_div_pow] using this
theorem xor_two (x y : Nat) : (x ^^^ y) % 2 = (x % 2) ^^^ (y % 2) := by
  have := @Nat.xor_mod_two_pow x y 1
  simpa using this
theorem cstep_rstep (r b j : Nat) : cstep (r ^^^ b / 2 ^ j) = rstep r b j ^^^ (b / 2 ^ (j + 1)) := by
  have e1 : b / 2 ^ j / 2 = b / 2 ^ (j + 1) := by rw [Nat.div_div_eq_div_mul, Nat.pow_succ]
  unfold cstep rstep rbit
  rw [xor_two, xor_half, e1]
  split
  · rw [Nat.xor_assoc, Nat.xor_comm (b / 2 ^ (j + 1)), ← Nat.xor_assoc]
  · rfl
theorem csteps_rsteps : ∀ (n r b j : Nat), csteps n (r ^^^ b / 2 ^ j) = rsteps n r b j ^^^ (b / 2 ^ (j + n))
  | 0, r, b, j => rfl
  | n + 1, r, b, j => by
    simp only [csteps, rsteps]
    rw [cstep_rstep, csteps_rsteps n (rstep r b j) b (j + 1)]
    congr 2
    rw [Nat.add_right_comm, Nat.add_assoc]
theorem rsteps_add (r b : Nat) (hb : b < 256) : rsteps 8 r b 0 = add r b := by
  have := csteps_rsteps 8 r b 0
  have e : b / 2 ^ (0 + 8) = 0 := Nat.div_eq_of_lt hb
  rw [e] at this
  simpa [add] using this.symm
theorem rstep_lt {r b j : Nat} (h : r < 2 ^ 32) : rstep r b j < 2 ^ 32 := by
  unfold rstep
  have h2 : r / 2 < 2 ^ 32 := by omega
  split
  · exact Nat.xor_lt_two_pow h2 (by decide)
  · exact h2
end Go.Ev
