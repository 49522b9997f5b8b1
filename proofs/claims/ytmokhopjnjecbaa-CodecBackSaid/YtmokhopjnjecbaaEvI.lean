/- The compilation of operations, and that it is sound. -/
import Derived.Test.YtmokhopjnjecbaaEvH
namespace Go.Ev
open Go.RowKit
set_option linter.unusedVariables false
set_option linter.unusedSimpArgs false
set_option linter.unusedSectionVars false

/-- Constants. -/
def ofV1 : Value → Option AV
  | .bool b => some (.bool b)
  | .int k n => some (.int k n)
  | .string s => some (.str s)
  | .pointer none => some .nilp
  | .slice none 0 0 => some .nils
  | .map none => some .nilm
  | .nilFunc => some .nilf
  | .nilIface => some .nili
  | _ => none
def ofVs : List Value → Option (List AV)
  | [] => some []
  | v :: vs => match ofV1 v, ofVs vs with
    | some x, some xs => some (x :: xs)
    | _, _ => none
def ofV : Value → Option AV
  | .agg cs => (ofVs cs.toList).map .agg
  | .iface t v => (ofV1 v).map (.ifc t)
  | v => ofV1 v
def arOf : Operand → Option AR
  | .tmp t => some (.t t)
  | .const v => (ofV v).map .c
  | .func f => some (.c (.func f []))
  | .global _ => none
def arsOf : List Operand → Option (List AR)
  | [] => some []
  | x :: xs => match arOf x, arsOf xs with
    | some a, some as => some (a :: as)
    | _, _ => none

theorem ofV1_closed {v : Value} {x : AV} (h : ofV1 v = some x) : Closed x v ∧ scal1 x = true := by
  unfold ofV1 at h
  split at h <;> simp at h <;> subst h <;> refine ⟨?_, rfl⟩ <;> intro L X nx w p
  · exact .bool
  · exact .int
  · exact .str
  · exact .nilp
  · exact .nils
  · exact .nilm
  · exact .nilf
  · exact .nili
theorem ofVs_closed : ∀ {vs : List Value} {xs : List AV}, ofVs vs = some xs → vs.length = xs.length ∧ ∀ (j : Nat) x, xs[j]? = some x → Closed x (vs.getD j undef) ∧ scal1 x = true
  | [], xs, h => by simp [ofVs] at h; subst h; exact ⟨rfl, by simp⟩
  | v :: vs, xs, h => by
    simp only [ofVs] at h
    split at h
    · rename_i x xs' h1 h2
      simp at h; subst h
      obtain ⟨i1, i2⟩ := ofVs_closed h2
      refine ⟨by simp [i1], fun j y hj => ?_⟩
      cases j with
      | zero => simp at hj; subst hj; simpa using ofV1_closed h1
      | succ j => simp at hj; simpa using i2 j y hj
    · cases h
theorem ofV_closed {v : Value} {x : AV} (h : ofV v = some x) : Closed x v := by
  unfold ofV at h
  split at h
  · rename_i cs
    cases h1 : ofVs cs.toList with
    | none => rw [h1] at h; cases h
    | some xs =>
      rw [h1] at h; simp at h; subst h
      obtain ⟨i1, i2⟩ := ofVs_closed h1
      intro L X nx w p
      exact .agg (by simpa using i1) (fun j y hj => by have := (i2 j y hj).1 L X nx w p; simpa [List.getD] using this)
  · rename_i t v
    cases h1 : ofV1 v with
    | none => rw [h1] at h; cases h
    | some y => rw [h1] at h; simp at h; subst h; intro L X nx w p; exact .ifc ((ofV1_closed h1).1 L X nx w p)
  · exact (ofV1_closed h).1

def szOf (P : Program) (t : TypeId) : Option Nat := (P.info? t).map (·.size)
def byOf (P : Program) (t : TypeId) : Nat := ((P.info? t).map (·.bytes)).getD 0
/-- A type's zero cells: as many as it has. -/
def zeroOf (P : Program) (t : TypeId) : Option (List AV) :=
  match P.info? t with
  | some i => match i.zero with
    | some z => if z.cells.size = i.size then ofVs z.cells.toList else none
    | none => none
  | none => none
def isAggOf (P : Program) (t : TypeId) : Option Bool :=
  match P.underlying t with
  | some (.struct _) | some (.array _ _) => some true
  | some _ => some false
  | none => none
def places (P : Program) (fs : Array Field) : List Nat → Option (List (Nat × Nat))
  | [] => some []
  | i :: is => match fs[i]?, places P fs is with
    | some f, some r => match szOf P f.type with
      | some n => if n = 0 then none else some ((f.offset, n) :: r)
      | none => none
    | _, _ => none
def sameOp : Operand → Operand → Bool
  | .tmp a, .tmp b => a == b
  | .const (.int k a), .const (.int k' b) => k == k' && a == b
  | _, _ => false
def isU8 (P : Program) (e : TypeId) : Bool := match P.underlying e with | some (.int .u8) => true | _ => false
def someList {α : Type} : Option α → List α
  | some a => [a]
  | none => []

/-- How a temporary is taken: 1: written through; 2: loads by it look at what nobody writes. -/
def takes (M : Nat → Nat) (d : Option Nat) (n : Nat) : Bool := match d with | some d => M d == n | none => false
/-- 3: a store by this very temporary is to the row that it got when it was made. -/
def keyOf (M : Nat → Nat) (a : Operand) : Option Nat := match a with | .tmp i => if M i = 3 then some i else none | _ => none
/-- An operation's kind and operands. M: which variables are written (by the temporary that leads to them), which loads look at what nobody writes; cm: how a function is called. -/
def compK (P : Program) (M : Nat → Nat) (cm : Nat → Nat) (o : Oper) : Option (AK × List Operand) :=
  match o.op with
  | .move x | .assign x => some (.mv, [x])
  | .pick c a b => some (.pick, [c, a, b])
  | .alloc t => match zeroOf P t, o.dst with
    | some z, some d => some (.new z d, [])
    | _, _ => none
  | .box t x => match o.dst with
    | some d => if M d = 1 then some (.boxm d, [x]) else some (.box, [x])
    | none => none
  | .build t ps => match P.underlying t with
    | some (.struct fs) => match zeroOf P t, places P fs (ps.toList.map Prod.fst) with
      | some z, some pl => if fs.all (fun f => (P.info? f.type).isSome) = true then some (.bld z pl, ps.toList.map Prod.snd) else none
      | _, _ => none
    | some (.array _ e) => match zeroOf P t, szOf P e with
      | some z, some n => if n = 0 then none else some (.bld z ((ps.toList.map Prod.fst).map fun q => (q * n, n)), ps.toList.map Prod.snd)
      | _, _ => none
    | _ => none
  | .buildSlice t len ps => match P.underlying t with
    | some (.slice e) => match szOf P e, zeroOf P e, o.dst with
      | some n, some _, some d => if n ≠ 0 ∧ len * n ≤ 16777216 ∧ ps.toList.map Prod.fst = List.range len then
          (if M d = 1 then some (.litm n len d, ps.toList.map Prod.snd) else if M d = 2 then some (.litr n len, ps.toList.map Prod.snd) else some (.lit n len, ps.toList.map Prod.snd)) else none
      | _, _, _ => none
    | _ => none
  | .load t a => match isAggOf P t, szOf P t with
    | some true, some n => if takes M o.dst 2 = true then (match keyOf M a with | some k => some (.ldnk n k, [a]) | none => some (.ldnr n, [a])) else some (.ldn n, [a])
    | some false, _ => if takes M o.dst 2 = true then (match keyOf M a with | some k => some (.ldk k, [a]) | none => some (.ld1r, [a])) else some (.ld1, [a])
    | _, _ => none
  | .store t a v => match szOf P t with
    | some n => if n = 0 then none else match keyOf M a with | some k => some (.stk n k, [a, v]) | none => some (.st n, [a, v])
    | none => none
  | .nilCheck x => some (.nck, [x])
  | .binOp op t x y _ => match P.underlying t with
    | some (.int _) | some .string => some (.bin op, [x, y])
    | some .bool => match op with | .eql => some (.eqb false, [x, y]) | .neq => some (.eqb true, [x, y]) | _ => none
    | some (.pointer _) => match op with | .eql => some (.eqp false, [x, y]) | .neq => some (.eqp true, [x, y]) | _ => none
    | some (.slice _) => match op with | .eql => some (.eqs false, [x, y]) | .neq => some (.eqs true, [x, y]) | _ => none
    | _ => none
  | .unOp u _ x => match u with | .not => some (.not, [x]) | .neg => some (.neg, [x]) | .xor => some (.cpl, [x]) | .plus => none
  | .convert src dst x => match P.underlying src, P.underlying dst with
    | some (.int _), some (.int k) => some (.conv k, [x])
    | some .string, some (.slice e) => if isU8 P e then some (.s2b, [x]) else none
    | some (.slice e), some .string => if isU8 P e then some (.b2s, [x]) else none
    | some (.slice e), some (.slice _) => if src = dst ∧ isU8 P e = true then some (.s2s, [x]) else none
    | _, _ => none
  | .makeInterface t x => match P.underlying t with
    | some (.interface _) => none
    | some _ => some (.ifc t, [x])
    | none => none
  | .makeFunc (.func f) first captured => if first.size = 0 then some (.mkf f, captured.toList) else none
  | .makeSlice t l c => match P.underlying t with
    | some (.slice e) => match szOf P e, zeroOf P e, o.dst with
      | some 1, some [z], some d => if sameOp l c then some (.mk z (byOf P e) d, [l]) else none
      | _, _, _ => none
    | _ => none
  | .slice t x lo hi mx => match P.underlying t with
    | some .string => if mx.isNone then some (.slcT lo.isSome hi.isSome, x :: (someList lo ++ someList hi)) else none
    | some (.slice e) => match szOf P e with
      | some n => if mx.isSome && hi.isNone then none else some (.slc n lo.isSome hi.isSome mx.isSome, x :: (someList lo ++ someList hi ++ someList mx))
      | none => none
    | _ => none
  | .fieldAddr t x n => match P.underlying t with
    | some (.struct fs) => match fs[n]? with
      | some f => match szOf P f.type with
        | some s => if s = 0 then none else some (.fa f.offset, [x])
        | none => none
      | none => none
    | _ => none
  | .field t x n => match P.underlying t with
    | some (.struct fs) => match fs[n]? with
      | some f => match isAggOf P f.type, szOf P f.type with
        | some true, some s => some (.fldn f.offset s, [x])
        | some false, _ => some (.fld1 f.offset, [x])
        | _, _ => none
      | none => none
    | _ => none
  | .indexAddr t x i => match P.underlying t with
    | some (.slice e) => match szOf P e with
      | some n => if n = 0 then none else some (.ixS n, [x, i])
      | none => none
    | some (.array len e) => match szOf P e with
      | some n => some (.ixP len n, [x, i])
      | none => none
    | _ => none
  | .index t x i => match P.underlying t with
    | some .string => some (.ixT, [x, i])
    | some (.array len e) => match szOf P e, isAggOf P e with
      | some 1, some false => some (.ixA1 len, [x, i])
      | _, _ => none
    | _ => none
  | .extract x i => some (.ext i, [x])
  | .call c => match c.callee with
    | .value (.func f) => some (.call f (cm f), c.args.toList)
    | .value x => some (.callv 0, x :: c.args.toList)
    | .builtin b => match b, c.args.toList, c.argTypes.toList with
      | .len, [x], [t] => match P.underlying t with
        | some .string => some (.lenT, [x])
        | some (.slice _) => some (.len, [x])
        | _ => none
      | .append, [x, y], [t, t'] => if t = t' then match P.underlying t with
        | some (.slice e) => match szOf P e, zeroOf P e, o.dst with
          | some n, some _, some d => if n = 0 then none else some (.app n (byOf P e) d, [x, y])
          | _, _, _ => none
        | _ => none else match P.underlying t, P.underlying t', o.dst with
        | some (.slice e), some .string, some d => if szOf P e = some 1 ∧ byOf P e = 1 ∧ (zeroOf P e).isSome = true then some (.apps d, [x, y]) else none
        | _, _, _ => none
      | .min, [x, y], _ => some (.mn, [x, y])
      | .max, [x, y], _ => some (.mx, [x, y])
      | _, _, _ => none
    | .invoke _ _ => none
  | _ => none
def compOp (P : Program) (M : Nat → Nat) (cm : Nat → Nat) (ops : Array Oper) (o : Oper) : Option Op :=
  match compK P M cm o with
  | some (k, xs) => match arsOf xs with
    | some as => match o.guard with
      | none => some ⟨o.dst, none, k, as⟩
      | some (j, b) => match (ops[j]?).bind (·.dst) with
        | some t => some ⟨o.dst, some (t, b), k, as⟩
        | none => none
    | none => none
  | none => none

/-- The temporaries. -/
def TRel (L : Loc) (X : Nat → Prop) (nx : Ctr) (w : World) (t : List AV) (tmps : Array Value) : Prop := Reps L X nx w false t tmps.toList

section
variable {P : Program} {w0 : World} {O X : Nat → Prop} {bm : Nat → Nat → Nat} {H : Heap} {nx : Ctr} {w : World}

theorem getT_get : ∀ (t : List AV) (i : Nat), getT t i = (t[i]?).getD .any
  | [], i => by simp [getT]
  | a :: t, 0 => rfl
  | a :: t, i + 1 => by simp [getT, getT_get t i]
theorem TRel.get {L : Loc} {t : List AV} {tmps : Array Value} (h : TRel L X nx w t tmps) (i : Nat) : Rep L X nx w false (getT t i) (tmps.getD i undef) := by
  rw [getT_get]
  cases hi : t[i]? with
  | none => exact .any
  | some x => have := Reps.get h i x hi; simpa [List.getD] using this
theorem ev_rep {L : Loc} {t : List AV} {a : Act} (h : TRel L X nx w t a.tmps) {x : Operand} {r : AR} (hr : arOf x = some r) : Rep L X nx w false (ev t r) (a.eval x) := by
  cases x with
  | tmp i => simp [arOf] at hr; subst hr; exact h.get i
  | const v =>
    simp only [arOf] at hr
    cases h1 : ofV v with
    | none => rw [h1] at hr; cases hr
    | some y => rw [h1] at hr; simp at hr; subst hr; exact ofV_closed h1 _ _ _ _ _
  | global g => cases hr
  | func f => simp [arOf] at hr; subst hr; exact .func rfl (by simp)
theorem evs_rep {L : Loc} {t : List AV} {a : Act} (h : TRel L X nx w t a.tmps) : ∀ {xs : List Operand} {rs : List AR}, arsOf xs = some rs → Reps L X nx w false (evs t rs) (xs.map a.eval)
  | [], rs, hr => by simp [arsOf] at hr; subst hr; exact .nil
  | x :: xs, rs, hr => by
    simp only [arsOf] at hr
    split at hr
    · rename_i r rs' h1 h2
      simp at hr; subst hr
      exact .cons (ev_rep h h1) (evs_rep h h2)
    · cases hr

/-- What one operation, not a call, does. -/
def Done (P : Program) (w0 : World) (O X : Nat → Prop) (bm : Nat → Nat → Nat) (H : Heap) (nx : Ctr) (w : World) (s : Sem Next) (v : AV) (H' : Heap) (nx' : Ctr) : Prop :=
  ∃ n v' w' bm', s.run P w = .ok n w' ∧ (n = .value v' ∨ (n = .skip ∧ v' = undef)) ∧ Rel w0 O X bm' H' nx' w' ∧ Move (Lof H bm) nx w (Lof H' bm') nx' w' ∧ Rep (Lof H' bm') X nx' w' false v v'
theorem OK.done {s : Sem Value} {v : AV} {H' : Heap} {nx' : Ctr} (h : OK P w0 O X bm H nx w s v H' nx') : Done P w0 O X bm H nx w (do pure (.value (← s))) v H' nx' := by
  obtain ⟨v', w', bm', h1, h2, h3, h4⟩ := h
  exact ⟨.value v', v', w', bm', by simp [h1], .inl rfl, h2, h3, h4⟩

theorem szOf_info {t : TypeId} {n : Nat} (h : szOf P t = some n) : ∃ i, P.info? t = some i ∧ i.size = n := by
  unfold szOf at h
  cases hi : P.info? t with
  | none => rw [hi] at h; cases h
  | some i => rw [hi] at h; simp at h; exact ⟨i, rfl, h⟩
theorem zeroOf_info {t : TypeId} {z : List AV} (h : zeroOf P t = some z) : ∃ i zv, P.info? t = some i ∧ i.zero = some zv ∧ zv.cells.size = i.size ∧ z.length = zv.cells.size ∧ ∀ (j : Nat) x, z[j]? = some x → Closed x (zv.cells.getD j undef) ∧ scal1 x = true := by
  unfold zeroOf at h
  split at h
  · rename_i i hi
    split at h
    · rename_i zv hz
      split at h
      · rename_i hs
        obtain ⟨i1, i2⟩ := ofVs_closed h
        exact ⟨i, zv, hi, hz, hs, by simpa using i1.symm, fun j x hj => by have := i2 j x hj; simpa [List.getD] using this⟩
      · cases h
    · cases h
  · cases h
theorem isAgg_true {t : TypeId} (h : isAggOf P t = some true) : ∃ D, P.underlying t = some D ∧ aggD D = true := by
  unfold isAggOf at h
  split at h
  · rename_i fs hu; exact ⟨_, hu, rfl⟩
  · rename_i fs hu; exact ⟨_, hu, rfl⟩
  · cases h
  · cases h
theorem isAgg_false {t : TypeId} (h : isAggOf P t = some false) : ∃ D, P.underlying t = some D ∧ aggD D = false := by
  unfold isAggOf at h
  split at h
  · cases h
  · cases h
  · rename_i D h1 h2 hu; exact ⟨D, hu, by cases D <;> first | rfl | exact absurd rfl (h1 _) | exact absurd rfl (h2 _ _) | exact absurd hu (h1 _) | exact absurd hu (h2 _ _)⟩
  · cases h
end
end Go.Ev
