/- Texts out of rows of bytes: equal just where the rows are. -/
import Derived.Test.YtmokhopjnjecbaaPSum
import Derived.ChangeKeysEq
namespace Go.Ev
set_option linter.unusedVariables false

/-- The text of a row of bytes. -/
def bstr (bs : List Nat) : ByteArray := ⟨(bytesOf (avs bs)).toArray⟩
theorem bytesOf_avs (bs : List Nat) : bytesOf (avs bs) = bs.map UInt8.ofNat := by
  induction bs with
  | nil => rfl
  | cons b bs ih => simp only [avs, List.map_cons, bytesOf, Int.toNat_natCast] at ih ⊢; rw [ih]
theorem isBytes_avs {bs : List Nat} (h : ∀ b ∈ bs, b < 256) : isBytes (avs bs) = true := by
  simp only [isBytes, avs, List.all_map, List.all_eq_true]
  intro b hb
  have := h b hb
  simp; omega
theorem map_ofNat_inj : ∀ {a b : List Nat}, (∀ x ∈ a, x < 256) → (∀ x ∈ b, x < 256) → a.map UInt8.ofNat = b.map UInt8.ofNat → a = b
  | [], [], _, _, _ => rfl
  | [], _ :: _, _, _, h => by simp at h
  | _ :: _, [], _, _, h => by simp at h
  | x :: a, y :: b, ha, hb, h => by
    simp only [List.map_cons, List.cons.injEq] at h
    have h1 := ha x (List.mem_cons_self)
    have h2 := hb y (List.mem_cons_self)
    have h3 : x = y := by
      have := congrArg UInt8.toNat h.1
      simp only [UInt8.toNat_ofNat'] at this
      omega
    rw [h3, map_ofNat_inj (fun z hz => ha z (List.mem_cons_of_mem _ hz)) (fun z hz => hb z (List.mem_cons_of_mem _ hz)) h.2]
theorem bstr_beq {a b : List Nat} (ha : ∀ x ∈ a, x < 256) (hb : ∀ x ∈ b, x < 256) : ((bstr a).toList == (bstr b).toList) = decide (a = b) := by
  have e : ∀ l, (bstr l).toList = l.map UInt8.ofNat := fun l => by rw [ByteArray.toList_eq, bstr, bytesOf_avs]
  rw [e, e]
  by_cases h : a = b
  · subst h; simp
  · simp only [h, decide_false, beq_eq_false_iff_ne, ne_eq]
    exact fun h2 => h (map_ofNat_inj ha hb h2)
theorem bstr_size (a : List Nat) : (bstr a).size = a.length := by
  show (bytesOf (avs a)).toArray.size = _
  rw [bytesOf_avs]; simp
end Go.Ev
