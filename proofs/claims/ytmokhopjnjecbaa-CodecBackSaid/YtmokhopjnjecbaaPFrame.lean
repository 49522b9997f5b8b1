/- Frames, as rows of bytes: what is in them, and what is found in a row. -/
import Derived.Test.YtmokhopjnjecbaaPSum
namespace Go.Ev
set_option linter.unusedVariables false

def be2 (n : Nat) : List Nat := [n / 256 % 256, n % 256]
def be4 (n : Nat) : List Nat := [n / 256 / 256 / 256 % 256, n / 256 / 256 % 256, n / 256 % 256, n % 256]
theorem be2_lt (n : Nat) : ∀ b ∈ be2 n, b < 256 := by
  intro b hb
  simp only [be2, List.mem_cons, List.not_mem_nil, or_false] at hb
  rcases hb with rfl | rfl <;> omega
theorem be4_lt (n : Nat) : ∀ b ∈ be4 n, b < 256 := by
  intro b hb
  simp only [be4, List.mem_cons, List.not_mem_nil, or_false] at hb
  rcases hb with rfl | rfl | rfl | rfl <;> omega
def frameOf (bs : List Nat) : List Nat := be2 bs.length ++ be4 (crcOf (be2 bs.length ++ bs)) ++ bs
theorem frameOf_len (bs : List Nat) : (frameOf bs).length = 6 + bs.length := by simp [frameOf, be2, be4]; omega
theorem frameOf_lt {bs : List Nat} (h : ∀ b ∈ bs, b < 256) : ∀ b ∈ frameOf bs, b < 256 := by
  intro b hb
  simp only [frameOf, List.mem_append] at hb
  rcases hb with (hb | hb) | hb
  · exact be2_lt _ b hb
  · exact be4_lt _ b hb
  · exact h b hb
/-- What is in the frame that a row begins with. -/
def first (bs : List Nat) : Option (List Nat) :=
  if bs.length < 6 then none
  else
    let n := bs.getD 0 0 * 256 + bs.getD 1 0
    if n < 1 ∨ 20000 < n ∨ bs.length < n + 6 then none
    else if frameOf ((bs.take (6 + n)).drop 6) = bs.take (6 + n) then some ((bs.take (6 + n)).drop 6) else none
theorem first_len {bs x : List Nat} (h : first bs = some x) : x.length + 6 ≤ bs.length ∧ 1 ≤ x.length ∧ x = (bs.take (6 + x.length)).drop 6 := by
  unfold first at h
  split at h
  · cases h
  · simp only at h
    split at h
    · cases h
    · rename_i hn
      split at h
      · simp only [Option.some.injEq] at h
        subst h
        obtain ⟨n, hn'⟩ : ∃ n, n = bs.getD 0 0 * 256 + bs.getD 1 0 := ⟨_, rfl⟩
        rw [← hn'] at hn ⊢
        have hl : ((bs.take (6 + n)).drop 6).length = n := by simp; omega
        rw [hl]
        refine ⟨by omega, by omega, rfl⟩
      · cases h
theorem first_frame {x : List Nat} (h1 : 1 ≤ x.length) (h2 : x.length ≤ 20000) (rest : List Nat) : first (frameOf x ++ rest) = some x := by
  have hl := frameOf_len x
  have h0 : (frameOf x ++ rest).getD 0 0 = x.length / 256 % 256 := by simp [frameOf, be2]
  have h3 : (frameOf x ++ rest).getD 1 0 = x.length % 256 := by simp [frameOf, be2]
  have hn : x.length / 256 % 256 * 256 + x.length % 256 = x.length := by omega
  have ht : (frameOf x ++ rest).take (6 + x.length) = frameOf x := by rw [← hl]; simp
  have hd : (frameOf x).drop 6 = x := by simp [frameOf, be2, be4]
  unfold first
  have hlen : (frameOf x ++ rest).length = 6 + x.length + rest.length := by rw [List.length_append, hl]
  rw [if_neg (by omega)]
  simp only [h0, h3, hn]
  rw [if_neg (by omega), ht, hd, if_pos rfl]
/-- All frames, as far as they stand, and where they end. -/
def scanF : Nat → List Nat → List (List Nat) × Nat
  | 0, _ => ([], 0)
  | f + 1, bs => match first bs with
    | none => ([], 0)
    | some x => (x :: (scanF f (bs.drop (6 + x.length))).1, 6 + x.length + (scanF f (bs.drop (6 + x.length))).2)
theorem scanF_le : ∀ (f : Nat) (bs : List Nat), (scanF f bs).2 ≤ bs.length
  | 0, bs => Nat.zero_le _
  | f + 1, bs => by
    simp only [scanF]
    split
    · exact Nat.zero_le _
    · rename_i x hx
      have := scanF_le f (bs.drop (6 + x.length))
      have h2 := first_len hx
      simp only [List.length_drop] at this ⊢
      omega
def cat (l : List (List Nat)) : List Nat := l.flatMap frameOf
theorem scanF_cat : ∀ (l : List (List Nat)) (f : Nat), (∀ x ∈ l, 1 ≤ x.length ∧ x.length ≤ 20000) → l.length < f → scanF f (cat l) = (l, (cat l).length)
  | [], f + 1, _, _ => by simp [scanF, cat, first]
  | [], 0, _, h => by omega
  | x :: l, 0, _, h => by omega
  | x :: l, f + 1, hl, h => by
    have hx := hl x (List.mem_cons_self)
    have ih := scanF_cat l f (fun y hy => hl y (List.mem_cons_of_mem _ hy)) (by simp at h; omega)
    have hc : cat (x :: l) = frameOf x ++ cat l := by simp [cat]
    have hfl := frameOf_len x
    have hd : (frameOf x ++ cat l).drop (6 + x.length) = cat l := by rw [← hfl]; simp
    rw [hc]
    simp only [scanF, first_frame hx.1 hx.2, hd, ih, List.length_append, hfl]
/-- More than enough rounds change nothing. -/
theorem scanF_more : ∀ (f g : Nat) (bs : List Nat), bs.length < f → bs.length < g → scanF f bs = scanF g bs
  | 0, _, bs, h, _ => by omega
  | _ + 1, 0, bs, _, h => by omega
  | f + 1, g + 1, bs, hf, hg => by
    simp only [scanF]
    split
    · rfl
    · rename_i x hx
      have h2 := first_len hx
      rw [scanF_more f g (bs.drop (6 + x.length)) (by simp; omega) (by simp; omega)]
end Go.Ev
