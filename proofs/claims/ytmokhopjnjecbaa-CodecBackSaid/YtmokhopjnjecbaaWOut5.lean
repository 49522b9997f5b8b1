/- The lemmas for Out.Text and End: names of an Out's rows, an append to a row that is there. -/
import Derived.Test.YtmokhopjnjecbaaWOut4
namespace Go.Proofs.Ytmokhopjnjecbaa
open Go.Ev
set_option linter.unusedVariables false
set_option linter.unusedSimpArgs false
set_option maxRecDepth 100000
set_option maxHeartbeats 1600000

def obK (f d : Nat) (e : Option (Nat × Nat)) : List (Nat × Nat) := match e with
  | none => [(f, d)]
  | some (key, _) => [(f, d), (1, key)]
theorem obK_sel (f d g : Nat) (B : Option (List AV)) (e : Option (Nat × Nat)) (bs : List Nat) (he : ObOk d e bs) : Ev.sel (obK f d e) ((f, d, g, B) :: obH e bs) = (f, d, g, B) :: obH e bs := by
  cases e with
  | none => simp [obK, obH, Ev.sel, find]
  | some p =>
    have h : d < p.1 := he.1
    exact ob_sel f d g B p.1 p.2 bs h
theorem obK_rest (f d g : Nat) (B : Option (List AV)) (e : Option (Nat × Nat)) (bs : List Nat) : rest (obK f d e) ((f, d, g, B) :: obH e bs) = [] := by
  cases e with
  | none => simp [obK, obH, rest, keyIn, kill]
  | some p => simp [obK, obH, rest, keyIn, kill]
theorem ob_app_some {α : Type} (K f d g : Nat) (B : Option (List AV)) (key g' : Nat) (bs : List Nat) (hk : d < key) (ns : List Nat) (c : Option Nat) (hlen : bs.length + ns.length ≤ 1099511627776) (nx : Ctr) (ok : AV → Heap → Ctr → α) (bad : α) :
    appK 1 1 K (obV (some (key, g')) bs) (.fz 1 (avs ns) c) ((f, d, g, B) :: obH (some (key, g')) bs) nx 1 ok bad = ok (.sl 1 key (nx key) 1 0 (bs ++ ns).length) ((f, d, g, B) :: obH (some (key, nx key)) (bs ++ ns)) (bump nx key) := by
  have n2 : ¬ (d = key ∧ f = 1) := by omega
  have n3 : ¬ key < d := by omega
  have n4 : (bs.length + ns.length) * 1 ≤ 1099511627776 ∧ bs.length + ns.length ≤ 1099511627776 := by omega
  have n5 : (avs bs).length = bs.length * 1 := by rw [avs_len]; omega
  simp only [appK, obV, obH, avs_len, catCells_avs, setB, getB, if_neg n2, if_neg n3, and_self, if_true, true_and, if_pos n4, n5, avs_append, List.length_append]
end Go.Proofs.Ytmokhopjnjecbaa
