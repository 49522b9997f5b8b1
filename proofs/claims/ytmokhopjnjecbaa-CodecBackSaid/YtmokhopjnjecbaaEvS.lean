/- The evaluator's steps, told so that a rewriter looks at what decides first, and at nothing else. -/
import Derived.Test.YtmokhopjnjecbaaEvR
namespace Go.Ev
set_option linter.unusedVariables false
/-! ### what looks up: with proofs that are no rfl (a congruence wants them so) -/
theorem evs_n (t : List AV) : evs t [] = [] := of_eq_true (eq_true rfl)
theorem evs_c (t : List AV) (x : AR) (l : List AR) : evs t (x :: l) = ev t x :: evs t l := of_eq_true (eq_true rfl)
theorem ev_t (t : List AV) (i : Nat) : ev t (.t i) = getT t i := of_eq_true (eq_true rfl)
theorem ev_v (t : List AV) (v : AV) : ev t (.c v) = v := of_eq_true (eq_true rfl)
theorem getT_z (a : AV) (l : List AV) : getT (a :: l) 0 = a := of_eq_true (eq_true rfl)
theorem getT_s (a : AV) (l : List AV) (n : Nat) : getT (a :: l) (n + 1) = getT l n := of_eq_true (eq_true rfl)
theorem getT_8 (a b c d e f g h : AV) (l : List AV) (n : Nat) : getT (a :: b :: c :: d :: e :: f :: g :: h :: l) (n + 8) = getT l n := of_eq_true (eq_true rfl)
theorem gets_n (t : List AV) : gets t [] = [] := of_eq_true (eq_true rfl)
theorem gets_c (t : List AV) (i : Nat) (l : List Nat) : gets t (i :: l) = getT t i :: gets t l := of_eq_true (eq_true rfl)
theorem drop_z (l : List AV) : List.drop 0 l = l := of_eq_true (eq_true rfl)
theorem drop_s (a : AV) (l : List AV) (n : Nat) : List.drop (n + 1) (a :: l) = List.drop n l := of_eq_true (eq_true rfl)
/-- One operation, or the call that it is. -/
def execA (φ : Nat) (o : AK) (vs : List AV) (d : Option Nat) (l : List Op) (k : List It) (t : List AV) (H : Heap) (nx : Ctr) (go : List It → List AV → Heap → Ctr → Out) : Out :=
  match o, vs with
  | .call f mode, vs => match mode with
    | 2 => .call f 2 vs [] d l k t H nx
    | 4 => mapK (frzK 9 []) vs (fun vs' i => match i with | [] => .call f 0 vs' [] d l k t H nx | _ => .bad) .bad
    | m => mapK (frzK 9 H) vs (fun vs' ids => .call f m vs' ids d l k t H nx) .bad
  | .callv mode, v :: vs => match v with
    | .func f caps => match mode with
      | 2 => .call f 2 (vs ++ caps) [] d l k t H nx
      | 3 => .bad
      | m => mapK (frzK 9 H) (vs ++ caps) (fun vs' ids => .call f m vs' ids d l k t H nx) .bad
    | _ => .bad
  | ak, vs => opK ak vs H nx φ (fun v H nx => go (.ops l :: k) (put t d v) H nx) .bad
theorem ex_eq (φ : Nat) (d : Option Nat) (g : Option (Nat × Bool)) (o : AK) (x : List AR) (l : List Op) (k : List It) (t : List AV) (H : Heap) (nx : Ctr) (go : List It → List AV → Heap → Ctr → Out) : execK φ ⟨d, g, o, x⟩ l k t H nx go = execA φ o (evs t x) d l k t H nx go := rfl
/-- One of two, by a truth. -/
def condK (v : AV) (x y : Out) : Out := match v with
  | .bool b => if b = true then x else y
  | _ => .bad
theorem condK_bool (b : Bool) (x y : Out) : condK (.bool b) x y = if b = true then x else y := rfl
theorem condK_true (x y : Out) : condK (.bool true) x y = x := rfl
theorem condK_false (x y : Out) : condK (.bool false) x y = y := rfl
@[congr] theorem condK_cg {v v' : AV} {x y : Out} (h : v = v') : condK v x y = condK v' x y := by subst h; rfl
def guardK (v : AV) (w : Bool) (x y : Out) : Out := match v with
  | .bool b => if b = w then x else y
  | .tup [] => y
  | _ => .bad
theorem guardK_tup (w : Bool) (x y : Out) : guardK (.tup []) w x y = y := rfl
theorem guardK_bool (b w : Bool) (x y : Out) : guardK (.bool b) w x y = if b = w then x else y := rfl
theorem guardK_tt (x y : Out) : guardK (.bool true) true x y = x := rfl
theorem guardK_tf (x y : Out) : guardK (.bool true) false x y = y := rfl
theorem guardK_ft (x y : Out) : guardK (.bool false) true x y = y := rfl
theorem guardK_ff (x y : Out) : guardK (.bool false) false x y = x := rfl
@[congr] theorem guardK_cg {v v' : AV} {w : Bool} {x y : Out} (h : v = v') : guardK v w x y = guardK v' w x y := by subst h; rfl
section
variable (φ : Nat) (go : List It → List AV → Heap → Ctr → Out) (k : List It) (t : List AV) (H : Heap) (nx : Ctr)
theorem as_nil : advStep φ go [] t H nx = .fall t H nx := rfl
theorem as_ops0 : advStep φ go (.ops [] :: k) t H nx = go k t H nx := rfl
theorem as_op (d : Option Nat) (o : AK) (x : List AR) (l : List Op) : advStep φ go (.ops (⟨d, none, o, x⟩ :: l) :: k) t H nx = execA φ o (evs t x) d l k t H nx go := rfl
theorem as_opg (d : Option Nat) (j : Nat) (w : Bool) (o : AK) (x : List AR) (l : List Op) : advStep φ go (.ops (⟨d, some (j, w), o, x⟩ :: l) :: k) t H nx = guardK (ev t (.t j)) w (execA φ o (evs t x) d l k t H nx go) (go (.ops l :: k) (put t d (.tup [])) H nx) := rfl
theorem as_blk (i : Nat) (m : List Bool) : advStep φ go (.blk i m :: k) t H nx = go k (killM m t) H nx := rfl
theorem as_frz (is : List Nat) : advStep φ go (.frz is :: k) t H nx = mapK (frzK 9 H) (gets t is) (fun vs ids => go k (putAll t is vs) (kill ids H) nx) .bad := rfl
theorem as_lp (m : Mk) (b : Cd) : advStep φ go (.lp m b :: k) t H nx = .more (.lp m b :: k) (killM m.t t) (dropK φ m.h H) nx := rfl
theorem as_skip : advStep φ go (.c .skip :: k) t H nx = go k t H nx := rfl
theorem as_reg (ops : List Op) : advStep φ go (.c (.reg ops) :: k) t H nx = go (.ops ops :: k) t H nx := rfl
theorem as_regf (ops : List Op) (is : List Nat) : advStep φ go (.c (.regf ops is) :: k) t H nx = go (.ops ops :: .frz is :: k) t H nx := rfl
theorem as_seq (a b : Cd) : advStep φ go (.c (.seq a b) :: k) t H nx = go (.c a :: .c b :: k) t H nx := rfl
theorem as_cond (c : AR) (a b : Cd) : advStep φ go (.c (.cond c a b) :: k) t H nx = condK (ev t c) (go (.c a :: k) t H nx) (go (.c b :: k) t H nx) := rfl
theorem as_cblk (i : Nat) (m : List Bool) (b : Cd) : advStep φ go (.c (.blk i m b) :: k) t H nx = go (.c b :: .blk i m :: k) t H nx := rfl
theorem as_loop (m : Mk) (b : Cd) : advStep φ go (.c (.loop m b) :: k) t H nx = .more (.lp m b :: k) (killM m.t t) (dropK φ m.h H) nx := rfl
theorem as_exit (i : Nat) : advStep φ go (.c (.exit i) :: k) t H nx = exitK i k (fun k' m => go k' (killM m t) H nx) .bad := rfl
theorem as_ret : advStep φ go (.c .ret :: k) t H nx = .done t H nx := rfl
end
/-- A list's first. -/
def headK {α : Type} (l : List AV) (ok : AV → α) (bad : α) : α := match l with
  | c :: _ => ok c
  | [] => bad
@[congr] theorem headK_cg {α : Type} {l l' : List AV} {ok : AV → α} {bad : α} (h : l = l') : headK l ok bad = headK l' ok bad := by subst h; rfl
theorem headK_cons {α : Type} (c : AV) (l : List AV) (ok : AV → α) (bad : α) : headK (c :: l) ok bad = ok c := rfl
def optK {α β : Type} (x : Option β) (ok : β → α) (bad : α) : α := match x with
  | some e => ok e
  | none => bad
@[congr] theorem optK_cg {α β : Type} {x x' : Option β} {ok : β → α} {bad : α} (h : x = x') : optK x ok bad = optK x' ok bad := by subst h; rfl
theorem optK_some {α β : Type} (e : β) (ok : β → α) (bad : α) : optK (some e) ok bad = ok e := rfl
def nilK {α β : Type} (i : List β) (ok bad : α) : α := match i with
  | [] => ok
  | _ => bad
@[congr] theorem nilK_cg {α β : Type} {i i' : List β} {ok bad : α} (h : i = i') : nilK i ok bad = nilK i' ok bad := by subst h; rfl
theorem nilK_nil {α β : Type} (ok bad : α) : nilK ([] : List β) ok bad = ok := rfl
/-- An element of a row, by an index. -/
def optI {α : Type} (es : List AV) (n : Int) (ok : AV → α) (bad : α) : α := optK es[n.toNat]? ok bad
theorem optI_of {α : Type} {es : List AV} {n : Int} {e : AV} (h : es[n.toNat]? = some e) (ok : AV → α) (bad : α) : optI es n ok bad = ok e := by simp only [optI, h, optK]
theorem optI_0 {α : Type} (a : AV) (l : List AV) (ok : AV → α) (bad : α) : optI (a :: l) 0 ok bad = ok a := rfl
theorem optI_1 {α : Type} (a b : AV) (l : List AV) (ok : AV → α) (bad : α) : optI (a :: b :: l) 1 ok bad = ok b := rfl
theorem optI_2 {α : Type} (a b c : AV) (l : List AV) (ok : AV → α) (bad : α) : optI (a :: b :: c :: l) 2 ok bad = ok c := rfl
theorem optI_3 {α : Type} (a b c d : AV) (l : List AV) (ok : AV → α) (bad : α) : optI (a :: b :: c :: d :: l) 3 ok bad = ok d := rfl
/-! ### one operation, its operands known -/
section
variable {α : Type} (H : Heap) (nx : Ctr) (φ : Nat) (ok : AV → Heap → Ctr → α) (bad : α)
theorem q_add (k : IntKind) (a b : Int) : opK (.bin .add) [.int k a, .int k b] H nx φ ok bad = ok (.int k (k.wrap (a + b))) H nx := by simp [opK, binK, intK]
theorem q_sub (k : IntKind) (a b : Int) : opK (.bin .sub) [.int k a, .int k b] H nx φ ok bad = ok (.int k (k.wrap (a - b))) H nx := by simp [opK, binK, intK]
theorem q_mul (k : IntKind) (a b : Int) : opK (.bin .mul) [.int k a, .int k b] H nx φ ok bad = ok (.int k (k.wrap (a * b))) H nx := by simp [opK, binK, intK]
theorem q_eql (k : IntKind) (a b : Int) : opK (.bin .eql) [.int k a, .int k b] H nx φ ok bad = ok (.bool (decide (a = b))) H nx := by simp [opK, binK, intK]
theorem q_neq (k : IntKind) (a b : Int) : opK (.bin .neq) [.int k a, .int k b] H nx φ ok bad = ok (.bool (!decide (a = b))) H nx := by simp [opK, binK, intK]
theorem q_lss (k : IntKind) (a b : Int) : opK (.bin .lss) [.int k a, .int k b] H nx φ ok bad = ok (.bool (decide (a < b))) H nx := by simp [opK, binK, intK]
theorem q_leq (k : IntKind) (a b : Int) : opK (.bin .leq) [.int k a, .int k b] H nx φ ok bad = ok (.bool (decide (a ≤ b))) H nx := by simp [opK, binK, intK]
theorem q_gtr (k : IntKind) (a b : Int) : opK (.bin .gtr) [.int k a, .int k b] H nx φ ok bad = ok (.bool (decide (b < a))) H nx := by simp [opK, binK, intK]
theorem q_geq (k : IntKind) (a b : Int) : opK (.bin .geq) [.int k a, .int k b] H nx φ ok bad = ok (.bool (decide (b ≤ a))) H nx := by simp [opK, binK, intK]
theorem q_quo (k : IntKind) (a b : Int) : opK (.bin .quo) [.int k a, .int k b] H nx φ ok bad = if b = 0 then bad else ok (.int k (k.wrap (a.tdiv b))) H nx := by simp [opK, binK, intK]
theorem q_rem (k : IntKind) (a b : Int) : opK (.bin .rem) [.int k a, .int k b] H nx φ ok bad = if b = 0 then bad else ok (.int k (a.tmod b)) H nx := by simp [opK, binK, intK]
theorem q_and (k : IntKind) (a b : Int) : opK (.bin .and) [.int k a, .int k b] H nx φ ok bad = ok (.int k (ibits .and k a b)) H nx := by simp [opK, binK, intK]
theorem q_or (k : IntKind) (a b : Int) : opK (.bin .or) [.int k a, .int k b] H nx φ ok bad = ok (.int k (ibits .or k a b)) H nx := by simp [opK, binK, intK]
theorem q_xor (k : IntKind) (a b : Int) : opK (.bin .xor) [.int k a, .int k b] H nx φ ok bad = ok (.int k (ibits .xor k a b)) H nx := by simp [opK, binK, intK]
theorem q_andNot (k : IntKind) (a b : Int) : opK (.bin .andNot) [.int k a, .int k b] H nx φ ok bad = ok (.int k (ibits .andNot k a b)) H nx := by simp [opK, binK, intK]
theorem q_shl (k k2 : IntKind) (a b : Int) : opK (.bin .shl) [.int k a, .int k2 b] H nx φ ok bad = if b < 0 then bad else ok (.int k (ishl k a b)) H nx := rfl
theorem q_shr (k k2 : IntKind) (a b : Int) : opK (.bin .shr) [.int k a, .int k2 b] H nx φ ok bad = if b < 0 then bad else ok (.int k (ishr k a b)) H nx := rfl
theorem q_seql (a b : ByteArray) : opK (.bin .eql) [.str a, .str b] H nx φ ok bad = ok (.bool (a.toList == b.toList)) H nx := rfl
theorem q_sneq (a b : ByteArray) : opK (.bin .neq) [.str a, .str b] H nx φ ok bad = ok (.bool !(a.toList == b.toList)) H nx := rfl
theorem q_slss (a b : ByteArray) : opK (.bin .lss) [.str a, .str b] H nx φ ok bad = ok (.bool (Op.bytesLess a.toList b.toList)) H nx := rfl
theorem q_sleq (a b : ByteArray) : opK (.bin .leq) [.str a, .str b] H nx φ ok bad = ok (.bool (Op.bytesLess a.toList b.toList || a.toList == b.toList)) H nx := rfl
theorem q_sgtr (a b : ByteArray) : opK (.bin .gtr) [.str a, .str b] H nx φ ok bad = ok (.bool !(Op.bytesLess a.toList b.toList || a.toList == b.toList)) H nx := rfl
theorem q_sgeq (a b : ByteArray) : opK (.bin .geq) [.str a, .str b] H nx φ ok bad = ok (.bool !(Op.bytesLess a.toList b.toList)) H nx := rfl
theorem q_sadd (a b : ByteArray) : opK (.bin .add) [.str a, .str b] H nx φ ok bad = if (a.size + b.size : Nat) ≤ 1099511627776 then ok (.str (a ++ b)) H nx else bad := rfl
theorem q_mv (x : AV) : opK .mv [x] H nx φ ok bad = ok x H nx := rfl
theorem q_pick (p : Bool) (x y : AV) : opK .pick [.bool p, x, y] H nx φ ok bad = if p = true then ok x H nx else ok y H nx := rfl
theorem q_eqb (a b : Bool) : opK (.eqb false) [.bool a, .bool b] H nx φ ok bad = ok (.bool (a == b)) H nx := rfl
theorem q_neb (a b : Bool) : opK (.eqb true) [.bool a, .bool b] H nx φ ok bad = ok (.bool (!(a == b))) H nx := rfl
theorem q_eqp (x : AV) : opK (.eqp false) [x, .nilp] H nx φ ok bad = nilpK x (fun b => ok (.bool b) H nx) bad := rfl
theorem q_neqp (x : AV) : opK (.eqp true) [x, .nilp] H nx φ ok bad = nilpK x (fun b => ok (.bool (!b)) H nx) bad := rfl
theorem q_eqs (x : AV) : opK (.eqs false) [x, .nils] H nx φ ok bad = nilsK x (fun b => ok (.bool b) H nx) bad := rfl
theorem q_neqs (x : AV) : opK (.eqs true) [x, .nils] H nx φ ok bad = nilsK x (fun b => ok (.bool (!b)) H nx) bad := rfl
theorem q_eqf (x : AV) : opK (.eqf false) [x, .nilf] H nx φ ok bad = nilfK x (fun b => ok (.bool b) H nx) bad := rfl
theorem q_neqf (x : AV) : opK (.eqf true) [x, .nilf] H nx φ ok bad = nilfK x (fun b => ok (.bool (!b)) H nx) bad := rfl
theorem q_eqi (x : AV) : opK (.eqi false) [x, .nili] H nx φ ok bad = niliK x (fun b => ok (.bool b) H nx) bad := rfl
theorem q_neqi (x : AV) : opK (.eqi true) [x, .nili] H nx φ ok bad = niliK x (fun b => ok (.bool (!b)) H nx) bad := rfl
theorem q_not (b : Bool) : opK .not [.bool b] H nx φ ok bad = ok (.bool (!b)) H nx := rfl
theorem q_neg (k : IntKind) (n : Int) : opK .neg [.int k n] H nx φ ok bad = ok (.int k (k.wrap (0 - n))) H nx := rfl
theorem q_cpl (k : IntKind) (n : Int) : opK .cpl [.int k n] H nx φ ok bad = ok (.int k (ibits .xor k (if k.signed then -1 else k.max) n)) H nx := rfl
theorem q_conv (k k2 : IntKind) (n : Int) : opK (.conv k) [.int k2 n] H nx φ ok bad = ok (.int k (k.wrap n)) H nx := rfl
theorem q_s2b (s : ByteArray) : opK .s2b [.str s] H nx φ ok bad = if s.size ≤ 1099511627776 then ok (.fz 1 (avBytes s) none) H nx else bad := rfl
theorem q_b2s0 : opK .b2s [.nils] H nx φ ok bad = ok (.str ⟨#[]⟩) H nx := rfl
theorem q_b2s1 (sz : Nat) (es : List AV) (c : Option Nat) : opK .b2s [.fz sz es c] H nx φ ok bad = if sz = 1 ∧ isBytes es = true then ok (.str ⟨(bytesOf es).toArray⟩) H nx else bad := rfl
theorem q_b2s2 (f d g sz off len : Nat) : opK .b2s [.sl f d g sz off len] H nx φ ok bad = getB H f d g (fun cs => if sz = 1 ∧ off + len ≤ cs.length ∧ isBytes ((cs.drop off).take len) = true then ok (.str ⟨(bytesOf ((cs.drop off).take len)).toArray⟩) H nx else bad) bad := rfl
theorem q_s2s (f d g sz off len : Nat) : opK .s2s [.sl f d g sz off len] H nx φ ok bad = getB H f d g (fun cs => if sz = 1 ∧ 0 < len ∧ off + len ≤ cs.length ∧ isBytes ((cs.drop off).take len) = true then ok (.fz 1 ((cs.drop off).take len) none) (kill [(f, d)] H) nx else bad) bad := rfl
theorem q_box (x : AV) : opK .box [x] H nx φ ok bad = if scal1 x = true ∨ (cells x).length ≠ 0 then ok (.ro (cells x)) H nx else bad := rfl
theorem q_boxm (key : Nat) (x : AV) : opK (.boxm key) [x] H nx φ ok bad = if (cells x).length ≠ 0 ∧ (cells x).all scal1 = true then ok (.ptr φ key (nx key) 0) (setB H φ key (nx key) (some (cells x))) (bump nx key) else bad := rfl
theorem q_new (z : List AV) (key : Nat) : opK (.new z key) [] H nx φ ok bad = ok (.ptr φ key (nx key) 0) (setB H φ key (nx key) (some z)) (bump nx key) := rfl
theorem q_ld1 (c : AV) (cs : List AV) : opK .ld1 [.ro (c :: cs)] H nx φ ok bad = ok c H nx := rfl
theorem q_ld1r (c : AV) (cs : List AV) : opK .ld1r [.ro (c :: cs)] H nx φ ok bad = ok c H nx := rfl
theorem q_ld1p (f d g off : Nat) : opK .ld1 [.ptr f d g off] H nx φ ok bad = getB H f d g (fun cs => headK (cs.drop off) (fun c => ok c H nx) bad) bad := rfl
theorem q_ldn (n : Nat) (cs : List AV) : opK (.ldn n) [.ro cs] H nx φ ok bad = if n ≤ cs.length then ok (.agg (cs.take n)) H nx else bad := rfl
theorem q_ldnr (n : Nat) (cs : List AV) : opK (.ldnr n) [.ro cs] H nx φ ok bad = if n ≤ cs.length then ok (.agg (cs.take n)) H nx else bad := rfl
theorem q_ldnp (n f d g off : Nat) : opK (.ldn n) [.ptr f d g off] H nx φ ok bad = getB H f d g (fun cs => if off + n ≤ cs.length then ok (.agg ((cs.drop off).take n)) H nx else bad) bad := rfl
theorem q_ldk (key f d g off : Nat) : opK (.ldk key) [.ptr f d g off] H nx φ ok bad = if d = key ∧ f = φ then (getB H f d g (fun cs => headK (cs.drop off) (fun c => ok c H nx) bad) bad) else bad := rfl
theorem q_ldnk (n key f d g off : Nat) : opK (.ldnk n key) [.ptr f d g off] H nx φ ok bad = if d = key ∧ f = φ then (getB H f d g (fun cs => if off + n ≤ cs.length then ok (.agg ((cs.drop off).take n)) H nx else bad) bad) else bad := rfl
theorem q_st (n f d g off : Nat) (v : AV) : opK (.st n) [.ptr f d g off, v] H nx φ ok bad = getB H f d g (fun cs => if (cells v).length = n ∧ (cells v).all scal1 = true ∧ off + n ≤ cs.length then ok .any (setB H f d g (some (cs.take off ++ cells v ++ cs.drop (off + n)))) nx else bad) bad := rfl
theorem q_stk (n key f d g off : Nat) (v : AV) : opK (.stk n key) [.ptr f d g off, v] H nx φ ok bad = if d = key ∧ f = φ then (getB H f d g (fun cs => if (cells v).length = n ∧ (cells v).all scal1 = true ∧ off + n ≤ cs.length then ok .any (setB H f d g (some (cs.take off ++ cells v ++ cs.drop (off + n)))) nx else bad) bad) else bad := rfl
theorem q_fa (off : Nat) (cs : List AV) : opK (.fa off) [.ro cs] H nx φ ok bad = if off < cs.length then ok (.ro (cs.drop off)) H nx else bad := rfl
theorem q_fap (off f d g o : Nat) : opK (.fa off) [.ptr f d g o] H nx φ ok bad = ok (.ptr f d g (o + off)) H nx := rfl
theorem q_fld1 (off : Nat) (cs : List AV) : opK (.fld1 off) [.agg cs] H nx φ ok bad = headK (cs.drop off) (fun c => ok c H nx) bad := rfl
theorem q_fldn (off n : Nat) (cs : List AV) : opK (.fldn off n) [.agg cs] H nx φ ok bad = if off + n ≤ cs.length then ok (.agg ((cs.drop off).take n)) H nx else bad := rfl
theorem q_ixS (sz sz2 : Nat) (es : List AV) (c : Option Nat) (k : IntKind) (n : Int) : opK (.ixS sz) [.fz sz2 es c, .int k n] H nx φ ok bad = if n < 0 then bad else if sz2 = sz then optI es n (fun e => ok (.ro (cells e)) H nx) bad else bad := by simp only [opK]; unfold optI optK; split <;> (try rfl); split <;> (try rfl); cases es[n.toNat]? <;> rfl
theorem q_ixSl (sz f d g sz2 off len : Nat) (k : IntKind) (n : Int) : opK (.ixS sz) [.sl f d g sz2 off len, .int k n] H nx φ ok bad = if n < 0 then bad else if sz2 = sz ∧ n.toNat < len then ok (.ptr f d g ((off + n.toNat) * sz)) H nx else bad := rfl
theorem q_ixP (len sz : Nat) (cs : List AV) (k : IntKind) (n : Int) : opK (.ixP len sz) [.ro cs, .int k n] H nx φ ok bad = if 0 ≤ n ∧ n < (len : Int) then if n.toNat * sz < cs.length then ok (.ro (cs.drop (n.toNat * sz))) H nx else bad else bad := rfl
theorem q_ixPp (len sz f d g o : Nat) (k : IntKind) (n : Int) : opK (.ixP len sz) [.ptr f d g o, .int k n] H nx φ ok bad = if 0 ≤ n ∧ n < (len : Int) then ok (.ptr f d g (o + n.toNat * sz)) H nx else bad := rfl
theorem q_ixT (s : ByteArray) (k : IntKind) (n : Int) : opK .ixT [.str s, .int k n] H nx φ ok bad = if n < 0 then bad else optK s.data.toList[n.toNat]? (fun b => ok (.int .u8 b.toNat) H nx) bad := by simp only [opK]; unfold optK; split <;> (try rfl); cases s.data.toList[n.toNat]? <;> rfl
theorem q_ixA1 (len : Nat) (cs : List AV) (k : IntKind) (n : Int) : opK (.ixA1 len) [.agg cs, .int k n] H nx φ ok bad = if 0 ≤ n ∧ n < (len : Int) then optI cs n (fun c => ok c H nx) bad else bad := by simp only [opK]; unfold optI optK; split <;> (try rfl); cases cs[n.toNat]? <;> rfl
theorem q_slc0 (sz : Nat) (lo hi mx : Bool) (bs : List AV) : opK (.slc sz lo hi mx) (.nils :: bs) H nx φ ok bad = cutK 0 0 lo hi mx bs (fun l h m => if l = 0 ∧ h = 0 ∧ (m = none ∨ m = some 0) then ok .nils H nx else bad) bad := rfl
theorem q_slc1 (sz sz2 : Nat) (es : List AV) (c : Option Nat) (lo hi mx : Bool) (bs : List AV) : opK (.slc sz lo hi mx) (.fz sz2 es c :: bs) H nx φ ok bad = if sz2 = sz then cutK es.length es.length lo hi mx bs (fun l h m => ok (.fz sz ((es.take h).drop l) (capOf es c m l)) H nx) bad else bad := rfl
theorem q_slc2 (sz f d g sz2 off len : Nat) (lo hi mx : Bool) (bs : List AV) : opK (.slc sz lo hi mx) (.sl f d g sz2 off len :: bs) H nx φ ok bad = if sz2 = sz ∧ mx = false then cutK len len lo hi mx bs (fun l h _ => ok (.sl f d g sz (off + l) (h - l)) H nx) bad else bad := rfl
theorem q_slcT (s : ByteArray) (lo hi : Bool) (bs : List AV) : opK (.slcT lo hi) (.str s :: bs) H nx φ ok bad = cutK s.size s.size lo hi false bs (fun l h _ => ok (.str (s.extract l h)) H nx) bad := rfl
theorem q_lenT (s : ByteArray) : opK .lenT [.str s] H nx φ ok bad = ok (.int .i64 s.size) H nx := rfl
theorem q_len0 : opK .len [.nils] H nx φ ok bad = ok (.int .i64 0) H nx := rfl
theorem q_len1 (sz : Nat) (es : List AV) (c : Option Nat) : opK .len [.fz sz es c] H nx φ ok bad = ok (.int .i64 es.length) H nx := rfl
theorem q_len2 (f d g sz off len : Nat) : opK .len [.sl f d g sz off len] H nx φ ok bad = ok (.int .i64 len) H nx := rfl
theorem q_app (sz by_ key : Nat) (x y : AV) : opK (.app sz by_ key) [x, y] H nx φ ok bad = appK sz by_ key x y H nx φ ok bad := rfl
theorem q_apps (key : Nat) (x : AV) (s : ByteArray) : opK (.apps key) [x, .str s] H nx φ ok bad = appK 1 1 key x (.fz 1 (avBytes s) none) H nx φ ok bad := rfl
theorem q_lit (sz len : Nat) (xs : List AV) : opK (.lit sz len) xs H nx φ ok bad = if xs.length = len ∧ allSz sz xs = true then mapK (frzK 9 H) xs (fun xs2 i => nilK i (ok (.fz sz xs2 (some len)) H nx) bad) bad else bad := by simp only [opK]; split <;> (try rfl); congr 1; funext a i; cases i <;> rfl
theorem q_litr (sz len : Nat) (xs : List AV) : opK (.litr sz len) xs H nx φ ok bad = if xs.length = len ∧ allSz sz xs = true then mapK (frzK 9 []) xs (fun xs2 i => nilK i (ok (.fz sz xs2 (some len)) H nx) bad) bad else bad := by simp only [opK]; split <;> (try rfl); congr 1; funext a i; cases i <;> rfl
theorem q_litm (sz len key : Nat) (xs : List AV) : opK (.litm sz len key) xs H nx φ ok bad = if xs.length = len ∧ allSz sz xs = true then ok (.sl φ key (nx key) sz 0 len) (setB H φ key (nx key) (some (catCells xs))) (bump nx key) else bad := rfl
theorem q_bld (z : List AV) (ps : List (Nat × Nat)) (xs : List AV) : opK (.bld z ps) xs H nx φ ok bad = fillK ps xs z (fun cs => ok (.agg cs) H nx) bad := rfl
theorem q_mk (z : AV) (by_ key : Nat) (n : Int) : opK (.mk z by_ key) [.int .i64 n] H nx φ ok bad = if 0 ≤ n ∧ n * by_ ≤ 1099511627776 ∧ n ≤ 1099511627776 then ok (.sl φ key (nx key) 1 0 n.toNat) (setB H φ key (nx key) (some (List.replicate n.toNat z))) (bump nx key) else bad := rfl
theorem q_ext (i : Nat) (vs : List AV) : opK (.ext i) [.tup vs] H nx φ ok bad = headK (vs.drop i) (fun v => ok v H nx) bad := rfl
theorem q_nckp (f d g o : Nat) : opK .nck [.ptr f d g o] H nx φ ok bad = ok (.ptr f d g o) H nx := rfl
theorem q_nckr (cs : List AV) : opK .nck [.ro cs] H nx φ ok bad = ok (.ro cs) H nx := rfl
theorem q_nckf (f : Nat) (cs : List AV) : opK .nck [.func f cs] H nx φ ok bad = ok (.func f cs) H nx := rfl
theorem q_mn (k k2 : IntKind) (a b : Int) : opK .mn [.int k a, .int k2 b] H nx φ ok bad = ok (.int k (if b < a then b else a)) H nx := rfl
theorem q_mx (k k2 : IntKind) (a b : Int) : opK .mx [.int k a, .int k2 b] H nx φ ok bad = ok (.int k (if b > a then b else a)) H nx := rfl
theorem q_mkf (f : Nat) (cs : List AV) : opK (.mkf f) cs H nx φ ok bad = ok (.func f cs) H nx := rfl
theorem q_ifc (t : Nat) (x : AV) : opK (.ifc t) [x] H nx φ ok bad = ok (.ifc t x) H nx := rfl
end
end Go.Ev
