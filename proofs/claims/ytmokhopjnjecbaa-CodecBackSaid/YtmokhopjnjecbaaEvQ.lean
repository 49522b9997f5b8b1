/- Contracts told otherwise: results told less of, slices that may be nil. -/
import Derived.Test.YtmokhopjnjecbaaEvP
namespace Go.Ev
open Go.RowKit
set_option linter.unusedVariables false
set_option linter.unusedSectionVars false

theorem doneG {P : Program} {φ : Nat} {rs : List RS} {r : AV} {k0 : List It} {t : List AV} {H : Heap} {nx : Ctr} (h : retK rs t H some none = some r) : RunsO P φ (Gives rs r) k0 (.done t H nx) := ⟨r, h, Wk1.refl r⟩
theorem doneW {P : Program} {φ : Nat} {rs : List RS} {r r' : AV} {k0 : List It} {t : List AV} {H : Heap} {nx : Ctr} (h : retK rs t H some none = some r') (hw : Wk1 r' r) : RunsO P φ (Gives rs r) k0 (.done t H nx) := ⟨r', h, hw⟩
theorem doneH {P : Program} {φ : Nat} {ks : List (Nat × Nat)} {rs : List RS} {r : AV} {Hout : Heap} {nx' : Ctr} {k0 : List It} {t : List AV} {H : Heap} {nx : Ctr} (h1 : Ev.sel ks H = Hout) (h2 : getsK rs t H (fun vs => some (retv vs)) none = some r) (h3 : nx = nx') : RunsO P φ (GivesH ks rs r Hout nx') k0 (.done t H nx) := GivesH.of h1 h2 h3
/-- No room told. -/
theorem Wk1.cap (sz : Nat) (es : List AV) (c : Option Nat) : Wk1 (.fz sz es c) (.fz sz es none) := by
  intro L X nx w p v h
  cases h with
  | fz0 a b => exact .fz0 (by simp) (fun e => ⟨(b e).1, rfl⟩)
  | fz vv a b c d e f g h => exact .fz vv a b (by simp) d e f g h
theorem Wk1.nils (sz : Nat) : Wk1 .nils (.fz sz [] none) := by
  intro L X nx w p v h
  cases h with
  | nils => exact .fz0 (by simp) (fun _ => ⟨rfl, rfl⟩)
theorem Wk1.any (x : AV) : Wk1 x .any := fun _ _ _ _ _ _ _ => .any
theorem Wk1.agg {xs ys : List AV} (hl : xs.length = ys.length) (h : ∀ (j : Nat) x y, xs[j]? = some x → ys[j]? = some y → Wk1 x y) : Wk1 (.agg xs) (.agg ys) := by
  intro L X nx w p v hr
  cases hr with
  | agg hs hr =>
    refine .agg (by omega) (fun j y hy => ?_)
    have hlt := (List.getElem?_eq_some_iff.1 hy).1
    have hx : xs[j]? = some xs[j] := List.getElem?_eq_getElem (by omega)
    exact h j _ _ hx hy _ _ _ _ _ _ (hr j _ hx)
theorem Wk1.tup {xs ys : List AV} (hl : xs.length = ys.length) (h : ∀ (j : Nat) x y, xs[j]? = some x → ys[j]? = some y → Wk1 x y) : Wk1 (.tup xs) (.tup ys) := by
  intro L X nx w p v hr
  cases hr with
  | tup hs hr =>
    refine .tup (by omega) (fun j y hy => ?_)
    have hlt := (List.getElem?_eq_some_iff.1 hy).1
    have hx : xs[j]? = some xs[j] := List.getElem?_eq_getElem (by omega)
    exact h j _ _ hx hy _ _ _ _ _ _ (hr j _ hx)
theorem PCalls.wk {P : Program} {f : Nat} {args : List AV} {r r' : AV} (h : PCalls P f args r) (hw : Wk1 r r') : PCalls P f args r' :=
  ⟨h.ok, fun X w vals hX ha => (h.calls X w vals hX ha).mono fun _ _ ⟨v, e, b, hr⟩ => ⟨v, e, b, hw _ _ _ _ _ _ hr⟩⟩
theorem HCalls.wk {P : Program} {f : Nat} {args : List AV} {Hin Hout : Heap} {nx nx' : Ctr} {r r' : AV} (h : HCalls P f args Hin nx r Hout nx') (hw : Wk1 r r') : HCalls P f args Hin nx r' Hout nx' :=
  ⟨h.ok, fun X w bm vals hX ha => (h.calls X w bm vals hX ha).mono fun _ _ ⟨v, bm', e, b, m, hr⟩ => ⟨v, bm', e, b, m, hw _ _ _ _ _ _ hr⟩⟩
/-- An empty slice is nil, or one with a known room. -/
theorem nil_or {L : Loc} {X : Nat → Prop} {nx : Ctr} {w : World} {p : Bool} {sz : Nat} {v : Value} (h : Rep L X nx w p (.fz sz [] none) v) : Rep L X nx w p .nils v ∨ ∃ c, Rep L X nx w p (.fz sz [] (some c)) v := by
  cases h with
  | @fz0 _ _ _ A c a b =>
    cases A with
    | none => obtain ⟨rfl, _⟩ := b rfl; exact .inl .nils
    | some A => exact .inr ⟨c, .fz0 (by simp) (fun e => by cases e)⟩
  | fz vv hne => exact absurd rfl hne
theorem PCalls.nil {P : Program} {f sz : Nat} {pre post : List AV} {r : AV} (h1 : PCalls P f (pre ++ .nils :: post) r) (h2 : ∀ c, PCalls P f (pre ++ .fz sz [] (some c) :: post) r) : PCalls P f (pre ++ .fz sz [] none :: post) r := by
  refine ⟨h1.ok, fun X w vals hX ha => ?_⟩
  have key : ∀ (pre : List AV) (vals : List Value), Reps none4 X zeroC w true (pre ++ .fz sz [] none :: post) vals → Reps none4 X zeroC w true (pre ++ .nils :: post) vals ∨ ∃ c, Reps none4 X zeroC w true (pre ++ .fz sz [] (some c) :: post) vals := by
    intro pre
    induction pre with
    | nil =>
      intro vals ha
      obtain ⟨v, vs, rfl, a, b⟩ := ha.inv
      rcases nil_or a with a | ⟨c, a⟩
      · exact .inl (.cons a b)
      · exact .inr ⟨c, .cons a b⟩
    | cons x pre ih =>
      intro vals ha
      obtain ⟨v, vs, rfl, a, b⟩ := ha.inv
      rcases ih vs b with b | ⟨c, b⟩
      · exact .inl (.cons a b)
      · exact .inr ⟨c, .cons a b⟩
  rcases key pre vals ha with ha | ⟨c, ha⟩
  · exact h1.calls X w vals hX ha
  · exact (h2 c).calls X w vals hX ha

theorem Reps.arg {L : Loc} {X : Nat → Prop} {nx : Ctr} {w : World} {p : Bool} {x y : AV} (hw : Wk1 x y) {post : List AV} : ∀ (pre : List AV) (vals : List Value), Reps L X nx w p (pre ++ x :: post) vals → Reps L X nx w p (pre ++ y :: post) vals
  | [], vals, h => by obtain ⟨v, vs, rfl, a, b⟩ := h.inv; exact .cons (hw _ _ _ _ _ _ a) b
  | z :: pre, vals, h => by obtain ⟨v, vs, rfl, a, b⟩ := h.inv; exact .cons a (Reps.arg hw pre vs b)
theorem PCalls.arg {P : Program} {f : Nat} (pre : List AV) {post : List AV} {x y r : AV} (hw : Wk1 x y) (h : PCalls P f (pre ++ y :: post) r) : PCalls P f (pre ++ x :: post) r :=
  ⟨h.ok, fun X w vals hX ha => h.calls X w vals hX (Reps.arg hw pre vals ha)⟩
theorem capOf_nn (es : List AV) (l : Nat) : capOf es none none l = none := by cases es <;> rfl
theorem wrap64 {z : Int} (h0 : -9223372036854775808 ≤ z) (h1 : z < 9223372036854775808) : IntKind.i64.wrap z = z := by rw [IntKind.wrap_i64]; omega
/-! ### the freezing, case by case -/
section
variable {α : Type} (n : Nat) (H : Heap) (ok : AV → List (Nat × Nat) → α) (bad : α)
theorem frzK_sl (f d g sz off len : Nat) : frzK (n + 1) H (.sl f d g sz off len) ok bad = getB H f d g (fun cs => if (off + len) * sz ≤ cs.length then mapK (frzK n H) ((cs.drop (off * sz)).take (len * sz)) (fun cs' i => ok (.fz sz (chunk sz len cs') none) ((f, d) :: i)) bad else bad) bad := rfl
theorem frzK_agg (cs : List AV) : frzK (n + 1) H (.agg cs) ok bad = mapK (frzK n H) cs (fun cs' i => ok (.agg cs') i) bad := rfl
theorem frzK_tup (cs : List AV) : frzK (n + 1) H (.tup cs) ok bad = mapK (frzK n H) cs (fun cs' i => ok (.tup cs') i) bad := rfl
theorem frzK_ifc (t : Nat) (v : AV) : frzK (n + 1) H (.ifc t v) ok bad = frzK n H v (fun v' i => ok (.ifc t v') i) bad := rfl
theorem frzK_func (f : Nat) (cs : List AV) : frzK (n + 1) H (.func f cs) ok bad = mapK (frzK n H) cs (fun cs' i => ok (.func f cs') i) bad := rfl
theorem frzK_int (k : IntKind) (z : Int) : frzK (n + 1) H (.int k z) ok bad = ok (.int k z) [] := rfl
theorem frzK_bool (b : Bool) : frzK (n + 1) H (.bool b) ok bad = ok (.bool b) [] := rfl
theorem frzK_str (b : ByteArray) : frzK (n + 1) H (.str b) ok bad = ok (.str b) [] := rfl
theorem frzK_nilp : frzK (n + 1) H .nilp ok bad = ok .nilp [] := rfl
theorem frzK_nils : frzK (n + 1) H .nils ok bad = ok .nils [] := rfl
theorem frzK_nilm : frzK (n + 1) H .nilm ok bad = ok .nilm [] := rfl
theorem frzK_nilf : frzK (n + 1) H .nilf ok bad = ok .nilf [] := rfl
theorem frzK_nili : frzK (n + 1) H .nili ok bad = ok .nili [] := rfl
theorem frzK_fz (sz : Nat) (es : List AV) (c : Option Nat) : frzK (n + 1) H (.fz sz es c) ok bad = ok (.fz sz es c) [] := rfl
theorem frzK_any : frzK (n + 1) H .any ok bad = bad := rfl
theorem frzK_ptr (f d g off : Nat) : frzK (n + 1) H (.ptr f d g off) ok bad = bad := rfl
theorem frzK_ro (cs : List AV) : frzK (n + 1) H (.ro cs) ok bad = mapK (frzK n H) cs (fun cs' i => ok (.ro cs') i) bad := rfl
end

/-! ### rows that are built one behind the other -/
/-- Not begun yet, or of that generation. -/
def accV (φ d sz : Nat) (e : Option Nat) (n : Nat) : AV := match e with
  | none => .nils
  | some g => .sl φ d g sz 0 n
def accE (φ d : Nat) (e : Option Nat) (cs : List AV) : Heap := match e with
  | none => []
  | some g => [(φ, d, g, some cs)]
theorem find_accE (φ d g : Nat) (cs : List AV) (T : Heap) : find (accE φ d (some g) cs ++ T) φ d = some (g, some cs) := by simp [accE, find]
theorem find_accE_ne (φ d d' : Nat) (e : Option Nat) (cs : List AV) (T : Heap) (h : d ≠ d') : find (accE φ d e cs ++ T) φ d' = find T φ d' := by
  cases e with
  | none => rfl
  | some g => simp only [accE, List.cons_append, List.nil_append, find]; rw [if_neg (fun e => h e.1)]
/-- All names lie behind that one. -/
def above (d : Nat) : Heap → Bool
  | [] => true
  | (_, d', _, _) :: _ => decide (d < d')
theorem setB_accE (φ d g' : Nat) (e : Option Nat) (cs : List AV) (b : Option (List AV)) (T : Heap) (h : above d T = true) : setB (accE φ d e cs ++ T) φ d g' b = (φ, d, g', b) :: T := by
  cases e with
  | none =>
    cases T with
    | nil => rfl
    | cons x T =>
      obtain ⟨f1, d1, g1, b1⟩ := x
      simp only [above, decide_eq_true_eq] at h
      simp only [accE, List.nil_append, setB]
      rw [if_neg (by omega), if_pos h]
  | some g => simp [accE, setB]
theorem setB_accE_ne (φ d d' g' : Nat) (e : Option Nat) (cs : List AV) (b : Option (List AV)) (T : Heap) (h : d < d') : setB (accE φ d e cs ++ T) φ d' g' b = accE φ d e cs ++ setB T φ d' g' b := by
  cases e with
  | none => rfl
  | some g => simp only [accE, List.cons_append, List.nil_append, setB]; rw [if_neg (by omega), if_neg (by omega)]
/-- One more piece at the end. -/
theorem app_acc {α : Type} {φ d sz by_ n m : Nat} {e : Option Nat} {cs ns : List AV} {H : Heap} {nx : Ctr} {y : AV} {ok : AV → Heap → Ctr → α} {bad : α}
    (h0 : e = none → cs = [] ∧ n = 0) (hf : ∀ g, e = some g → find H φ d = some (g, some cs)) (hc : cs.length = n * sz)
    (hy : (∃ es c, y = .fz sz es c ∧ m = es.length ∧ ns = catCells es)) (hm : 0 < m) (hb : (n + m) * by_ ≤ 1099511627776) (hb' : n + m ≤ 1099511627776) :
    appK sz by_ d (accV φ d sz e n) y H nx φ ok bad = ok (accV φ d sz (some (nx d)) (n + m)) (setB H φ d (nx d) (some (cs ++ ns))) (bump nx d) := by
  obtain ⟨es, c, rfl, rfl, rfl⟩ := hy
  cases e with
  | none =>
    obtain ⟨rfl, rfl⟩ := h0 rfl
    simp only [accV, appK, if_true]
    rw [if_neg (by omega), if_pos ⟨by simpa using hb, by simpa using hb'⟩]
    simp
  | some g =>
    simp only [accV, appK, if_true]
    rw [if_pos ⟨trivial, trivial, hb, hb'⟩, getB_of (hf g rfl), if_pos hc]

/-! ### what a rewriter looks at: the operands, not what is done with them -/
section
variable {α : Type}
@[congr] theorem ite_cg {c c' : Prop} {i : Decidable c} [Decidable c'] {a b : α} (h : c = c') : ite c a b = ite c' a b := by subst h; congr
@[congr] theorem opK_cg {o : AK} {vs vs' : List AV} {H H' : Heap} {nx nx' : Ctr} {φ : Nat} {ok : AV → Heap → Ctr → α} {bad : α} (h1 : vs = vs') (h2 : H = H') (h3 : nx = nx') : opK o vs H nx φ ok bad = opK o vs' H' nx' φ ok bad := by subst h1 h2 h3; rfl
@[congr] theorem appK_cg {sz by_ key : Nat} {x x' y y' : AV} {H H' : Heap} {nx nx' : Ctr} {φ : Nat} {ok : AV → Heap → Ctr → α} {bad : α} (h1 : x = x') (h4 : y = y') (h2 : H = H') (h3 : nx = nx') : appK sz by_ key x y H nx φ ok bad = appK sz by_ key x' y' H' nx' φ ok bad := by subst h1 h2 h3 h4; rfl
@[congr] theorem binK_cg {o : BinOp} {x x' y y' : AV} {ok : AV → α} {bad : α} (h1 : x = x') (h2 : y = y') : binK o x y ok bad = binK o x' y' ok bad := by subst h1 h2; rfl
@[congr] theorem intK_cg {o : BinOp} {k : IntKind} {x x' y y' : Int} {ok : AV → α} {bad : α} (h1 : x = x') (h2 : y = y') : intK o k x y ok bad = intK o k x' y' ok bad := by subst h1 h2; rfl
@[congr] theorem strK_cg {o : BinOp} {x x' y y' : ByteArray} {ok : AV → α} {bad : α} (h1 : x = x') (h2 : y = y') : strK o x y ok bad = strK o x' y' ok bad := by subst h1 h2; rfl
@[congr] theorem nilpK_cg {x x' : AV} {ok : Bool → α} {bad : α} (h1 : x = x') : nilpK x ok bad = nilpK x' ok bad := by subst h1; rfl
@[congr] theorem nilsK_cg {x x' : AV} {ok : Bool → α} {bad : α} (h1 : x = x') : nilsK x ok bad = nilsK x' ok bad := by subst h1; rfl
@[congr] theorem nilfK_cg {x x' : AV} {ok : Bool → α} {bad : α} (h1 : x = x') : nilfK x ok bad = nilfK x' ok bad := by subst h1; rfl
@[congr] theorem niliK_cg {x x' : AV} {ok : Bool → α} {bad : α} (h1 : x = x') : niliK x ok bad = niliK x' ok bad := by subst h1; rfl
@[congr] theorem bndK_cg {x x' : AV} {m m' : Nat} {ok : Nat → α} {bad : α} (h1 : x = x') (h2 : m = m') : bndK x m ok bad = bndK x' m' ok bad := by subst h1 h2; rfl
@[congr] theorem cutK_cg {len len' lim lim' : Nat} {lo hi mx : Bool} {vs vs' : List AV} {ok : Nat → Nat → Option Nat → α} {bad : α} (h1 : len = len') (h2 : lim = lim') (h3 : vs = vs') : cutK len lim lo hi mx vs ok bad = cutK len' lim' lo hi mx vs' ok bad := by subst h1 h2 h3; rfl
@[congr] theorem fillK_cg {ps : List (Nat × Nat)} {vs vs' cs cs' : List AV} {ok : List AV → α} {bad : α} (h1 : vs = vs') (h2 : cs = cs') : fillK ps vs cs ok bad = fillK ps vs' cs' ok bad := by subst h1 h2; rfl
@[congr] theorem mapK_cg {f : AV → (AV → List (Nat × Nat) → α) → α → α} {vs vs' : List AV} {ok : List AV → List (Nat × Nat) → α} {bad : α} (h1 : vs = vs') : mapK f vs ok bad = mapK f vs' ok bad := by subst h1; rfl
@[congr] theorem frzK_cg {n : Nat} {H H' : Heap} {v v' : AV} {ok : AV → List (Nat × Nat) → α} {bad : α} (h1 : H = H') (h2 : v = v') : frzK n H v ok bad = frzK n H' v' ok bad := by subst h1 h2; rfl
@[congr] theorem getB_cg {H H' : Heap} {f f' d d' g g' : Nat} {ok : List AV → α} {bad : α} (h1 : H = H') (h2 : f = f') (h3 : d = d') (h4 : g = g') : getB H f d g ok bad = getB H' f' d' g' ok bad := by subst h1 h2 h3 h4; rfl
@[congr] theorem exitK_cg {i : Nat} {k k' : List It} {ok : List It → List Bool → α} {bad : α} (h1 : k = k') : exitK i k ok bad = exitK i k' ok bad := by subst h1; rfl
@[congr] theorem getsK_cg {rs : List RS} {t t' : List AV} {H H' : Heap} {ok : List AV → α} {bad : α} (h1 : t = t') (h2 : H = H') : getsK rs t H ok bad = getsK rs t' H' ok bad := by subst h1 h2; rfl
@[congr] theorem getR_cg {r : RS} {t t' : List AV} {H H' : Heap} {ok : AV → α} {bad : α} (h1 : t = t') (h2 : H = H') : getR r t H ok bad = getR r t' H' ok bad := by subst h1 h2; rfl
@[congr] theorem retK_cg {rs : List RS} {t t' : List AV} {H H' : Heap} {ok : AV → α} {bad : α} (h1 : t = t') (h2 : H = H') : retK rs t H ok bad = retK rs t' H' ok bad := by subst h1 h2; rfl
end
end Go.Ev
