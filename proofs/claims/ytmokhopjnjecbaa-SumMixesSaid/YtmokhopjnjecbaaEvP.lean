/- The compiled code's run is the machine's; a function's contract out of a run. -/
import Derived.Test.YtmokhopjnjecbaaEvO
namespace Go.Ev
open Go.RowKit
set_option linter.unusedVariables false
set_option linter.unusedSimpArgs false
set_option linter.unusedSectionVars false

inductive Its (P : Program) (M : Nat → Nat) (cm : Nat → Nat) (k0 : List Item) : List It → List Item → Prop
  | nil : Its P M cm k0 [] k0
  | code {c cd k k'} (h : compC P M cm c = some cd) (t : Its P M cm k0 k k') : Its P M cm k0 (.c cd :: k) (.code c :: k')
  | blk {i k k'} (t : Its P M cm k0 k k') : Its P M cm k0 (.blk i :: k) (.inBlock i :: k')
  | lp {c cd k k'} (h : compC P M cm c = some cd) (t : Its P M cm k0 k k') : Its P M cm k0 (.lp cd :: k) (.inLoop c :: k')

section
variable {P : Program} {w0 : World} {O X : Nat → Prop} {L0 : Loc} {nx0 : Nat} {M : Nat → Nat} {cm : Nat → Nat}

theorem exit_its {k0 : List Item} {i : Nat} : ∀ {k : List It} {k' : List Item} {j : List It}, Its P M cm k0 k k' → exitK i k some none = some j → ∃ j', exitTo i k' = some j' ∧ Its P M cm k0 j j'
  | [], _, _, h, he => by cases he
  | .blk b :: k, _, j, h, he => by
    cases h with
    | blk t =>
      simp only [exitK] at he
      split at he
      · rename_i hb; simp at he; subst he; exact ⟨_, by simp [exitTo, hb], t⟩
      · rename_i hb
        obtain ⟨j', h1, h2⟩ := exit_its t he
        refine ⟨j', ?_, h2⟩
        have : (b == i) = false := by simpa using hb
        simp [exitTo, this, h1]
  | .c _ :: k, _, j, h, he => by
    cases h with
    | code h t =>
      obtain ⟨j', h1, h2⟩ := exit_its t he
      exact ⟨j', by simp [exitTo, h1], h2⟩
  | .lp _ :: k, _, j, h, he => by
    cases h with
    | lp h t =>
      obtain ⟨j', h1, h2⟩ := exit_its t he
      exact ⟨j', by simp [exitTo, h1], h2⟩
  | .ops _ :: k, _, _, h, he => by cases h

theorem runs_sim (hmix : P.follows .mixedOrders = true) {φ : Nat} {R : List AV → Heap → Nat → Prop} {its : List It} {t : List AV} {H : Heap} {nx : Nat} (h : RunsTo P φ R its t H nx) :
    ∀ {k0 todo : List Item} {a : Act} {w : World}, Its P M cm k0 its todo → St w0 O X L0 nx0 t H nx a w → ∀ (b : Frame) (cs : List Frame),
      ∃ e a' w' t' H' nx', (e = .normal ∨ e = .ret) ∧ R t' H' nx' ∧ St w0 O X L0 nx0 t' H' nx' a' w' ∧ Arrives P (lone (b.at a todo) cs w) b k0 cs e a' w' := by
  induction h with
  | nil h =>
    intro k0 todo a w hi st b cs
    cases hi
    exact ⟨.normal, a, w, _, _, _, .inl rfl, h, st, Steps.refl _ _⟩
  | ret h =>
    intro k0 todo a w hi st b cs
    cases hi with
    | code hc ht =>
      rename_i c k'
      cases c with
      | ret => exact ⟨.ret, a, w, _, _, _, .inr rfl, h, st, _, .one step_ret⟩
      | _ => simp only [compC] at hc <;> first | (cases hc; done) | (repeat' (split at hc)) <;> cases hc
  | skip h ih =>
    intro k0 todo a w hi st b cs
    cases hi with
    | code hc ht =>
      rename_i c k'
      cases c with
      | skip =>
        obtain ⟨e, a', w', t', H', nx', h1, h2, h3, h4⟩ := ih ht st b cs
        exact ⟨e, a', w', t', H', nx', h1, h2, h3, .of_steps (.one step_skip) h4⟩
      | label l =>
        obtain ⟨e, a', w', t', H', nx', h1, h2, h3, h4⟩ := ih ht st b cs
        exact ⟨e, a', w', t', H', nx', h1, h2, h3, .of_steps (.one step_label) h4⟩
      | _ => simp only [compC] at hc <;> first | (cases hc; done) | (repeat' (split at hc)) <;> cases hc
  | @reg l k t H nx t1 H1 nx1 h n ih =>
    intro k0 todo a w hi st b cs
    cases hi with
    | code hc ht =>
      rename_i c k'
      cases c with
      | region id ops draw =>
        have hw : (Code.region id ops draw).wp P (fun e a' w' => e = .normal ∧ St w0 O X L0 nx0 t1 H1 nx1 a' w') a w := by
          simp only [compC] at hc
          split at hc
          · rename_i l' hl'
            split at hc
            · rename_i hd
              simp at hc; subst hc
              cases draw with
              | false => exact region_text hl' h st (fun a' w' st' => ⟨rfl, st'⟩)
              | true => exact region_drawn hmix hl' (by simpa using hd) h st (fun a' w' st' => ⟨rfl, st'⟩)
            · cases hc
          · cases hc
        obtain ⟨e, a1, w1, ⟨rfl, st1⟩, harr⟩ := hw b k' cs
        obtain ⟨e, a', w', t', H', nx', h1, h2, h3, h4⟩ := ih ht st1 b cs
        exact ⟨e, a', w', t', H', nx', h1, h2, h3, .of_steps harr h4⟩
      | _ => simp only [compC] at hc <;> first | (cases hc; done) | (repeat' (split at hc)) <;> cases hc
  | seq h ih =>
    intro k0 todo a w hi st b cs
    cases hi with
    | code hc ht =>
      rename_i c k'
      cases c with
      | seq x y =>
        simp only [compC] at hc
        split at hc
        · rename_i hx hy
          simp at hc; obtain ⟨rfl, rfl⟩ := hc
          obtain ⟨e, a', w', t', H', nx', h1, h2, h3, h4⟩ := ih (.code hx (.code hy ht)) st b cs
          exact ⟨e, a', w', t', H', nx', h1, h2, h3, .of_steps (.one step_seq) h4⟩
        · cases hc
      | _ => simp only [compC] at hc <;> first | (cases hc; done) | (repeat' (split at hc)) <;> cases hc
  | condT he h ih =>
    intro k0 todo a w hi st b cs
    cases hi with
    | code hc ht =>
      rename_i c k'
      cases c with
      | cond v x y =>
        simp only [compC] at hc
        split at hc
        · rename_i hv hx hy
          simp at hc; obtain ⟨rfl, rfl, rfl⟩ := hc
          obtain ⟨e, a', w', t', H', nx', h1, h2, h3, h4⟩ := ih (.code hx ht) st b cs
          obtain ⟨bm, _, htr, _⟩ := st.rel
          have hev := ev_rep htr hv
          rw [he] at hev
          have hb : a.eval v = .bool true := by
            generalize a.eval v = u at hev
            cases hev; rfl
          exact ⟨e, a', w', t', H', nx', h1, h2, h3, .of_steps (.one (step_cond hb)) (by simpa using h4)⟩
        · cases hc
      | _ => simp only [compC] at hc <;> first | (cases hc; done) | (repeat' (split at hc)) <;> cases hc
  | condF he h ih =>
    intro k0 todo a w hi st b cs
    cases hi with
    | code hc ht =>
      rename_i c k'
      cases c with
      | cond v x y =>
        simp only [compC] at hc
        split at hc
        · rename_i hv hx hy
          simp at hc; obtain ⟨rfl, rfl, rfl⟩ := hc
          obtain ⟨e, a', w', t', H', nx', h1, h2, h3, h4⟩ := ih (.code hy ht) st b cs
          obtain ⟨bm, _, htr, _⟩ := st.rel
          have hev := ev_rep htr hv
          rw [he] at hev
          have hb : a.eval v = .bool false := by
            generalize a.eval v = u at hev
            cases hev; rfl
          exact ⟨e, a', w', t', H', nx', h1, h2, h3, .of_steps (.one (step_cond hb)) (by simpa using h4)⟩
        · cases hc
      | _ => simp only [compC] at hc <;> first | (cases hc; done) | (repeat' (split at hc)) <;> cases hc
  | blk h ih =>
    intro k0 todo a w hi st b cs
    cases hi with
    | code hc ht =>
      rename_i c k'
      cases c with
      | block i x =>
        simp only [compC] at hc
        split at hc
        · rename_i hx
          simp at hc; obtain ⟨rfl, rfl⟩ := hc
          obtain ⟨e, a', w', t', H', nx', h1, h2, h3, h4⟩ := ih (.code hx (.blk ht)) st b cs
          exact ⟨e, a', w', t', H', nx', h1, h2, h3, .of_steps (.one step_block) h4⟩
        · cases hc
      | _ => simp only [compC] at hc <;> first | (cases hc; done) | (repeat' (split at hc)) <;> cases hc
  | loop h ih =>
    intro k0 todo a w hi st b cs
    cases hi with
    | code hc ht =>
      rename_i c k'
      cases c with
      | loop x =>
        simp only [compC] at hc
        split at hc
        · rename_i hx
          simp at hc; subst hc
          obtain ⟨e, a', w', t', H', nx', h1, h2, h3, h4⟩ := ih (.code hx (.lp hx ht)) st b cs
          exact ⟨e, a', w', t', H', nx', h1, h2, h3, .of_steps (.one step_loop) h4⟩
        · cases hc
      | _ => simp only [compC] at hc <;> first | (cases hc; done) | (repeat' (split at hc)) <;> cases hc
  | exit he h ih =>
    intro k0 todo a w hi st b cs
    cases hi with
    | code hc ht =>
      rename_i c k'
      cases c with
      | exit i =>
        simp [compC] at hc; subst hc
        obtain ⟨j', hj1, hj2⟩ := exit_its ht he
        obtain ⟨e, a', w', t', H', nx', h1, h2, h3, h4⟩ := ih hj2 st b cs
        exact ⟨e, a', w', t', H', nx', h1, h2, h3, .of_steps (.one (step_exit hj1)) h4⟩
      | _ => simp only [compC] at hc <;> first | (cases hc; done) | (repeat' (split at hc)) <;> cases hc
  | endB h ih =>
    intro k0 todo a w hi st b cs
    cases hi with
    | blk ht =>
      obtain ⟨e, a', w', t', H', nx', h1, h2, h3, h4⟩ := ih ht st b cs
      exact ⟨e, a', w', t', H', nx', h1, h2, h3, .of_steps (.one step_inBlock) h4⟩
  | lp h ih =>
    intro k0 todo a w hi st b cs
    cases hi with
    | lp hc ht =>
      obtain ⟨e, a', w', t', H', nx', h1, h2, h3, h4⟩ := ih (.code hc (.lp hc ht)) st b cs
      exact ⟨e, a', w', t', H', nx', h1, h2, h3, .of_steps (.one step_inLoop) h4⟩

/-- What a function hands back. -/
def retv : List AV → AV
  | [v] => v
  | vs => .tup vs
def gets (t : List AV) : List Nat → List AV
  | [] => []
  | i :: l => getT t i :: gets t l
def retK {α : Type} (rs : List Nat) (t : List AV) (H : Heap) (ok : AV → α) (bad : α) : α := mapK (frzK 9 H) (gets t rs) (fun vs _ => ok (retv vs)) bad
/-- It ends, handing back that. -/
def Gives (rs : List Nat) (r : AV) (t : List AV) (H : Heap) (nx : Nat) : Prop := retK rs t H some none = some r

theorem gets_reps {L : Loc} {nx : Nat} {w : World} {t : List AV} {tmps : Array Value} (h : TRel L X nx w t tmps) : ∀ rs : List Nat, Reps L X nx w false (gets t rs) (rs.map fun i => tmps.getD i undef)
  | [] => .nil
  | i :: rs => .cons (h.get i) (gets_reps h rs)
theorem run_results {fn : Func} {rs : List Nat} (hrs : fn.results = (rs.map ResultVar.tmp).toArray) (tmps : Array Value) (w : World) :
    (results fn tmps).run P w = .ok (match rs.map (fun i => tmps.getD i undef) with | [v] => v | vs => .tuple vs.toArray) w := by
  have key : ∀ (g : ResultVar → Sem Value), (∀ i, (g (.tmp i)).run P w = .ok (tmps.getD i undef) w) → ∀ rs : List Nat, ((rs.map ResultVar.tmp).mapM g).run P w = .ok (rs.map (fun i => tmps.getD i undef)) w := by
    intro g hg rs
    induction rs with
    | nil => rfl
    | cons i rs ih => simp only [List.map_cons, List.mapM_cons, Sem.run_bind, hg, Sem.run_pure, Result.andThen_ok, ih]
  unfold results
  rw [hrs, Array.mapM_eq_mapM_toList]
  simp only [Sem.run_bind, Sem.run_map]
  rw [key _ (fun i => rfl)]
  simp only [Result.andThen_ok, Sem.run_pure]
  congr 1
  rcases rs with _ | ⟨i, _ | ⟨j, rs⟩⟩
  · simp
  · simp
  · simp

theorem reps_fill {L : Loc} {nx : Nat} {w : World} : ∀ n : Nat, Reps L X nx w false (List.replicate n (.tup [])) (List.replicate n undef)
  | 0 => .nil
  | n + 1 => by rw [List.replicate_succ, List.replicate_succ]; exact .cons (.tup rfl (by simp)) (reps_fill n)
theorem Reps.weak {L : Loc} {nx : Nat} {w : World} {xs : List AV} {vs : List Value} (h : Reps L X nx w true xs vs) : Reps L X nx w false xs vs := by
  induction h with
  | nil => exact .nil
  | cons h _ ih => exact .cons h.weak ih

/-- A function's contract, out of a run of its compiled body. -/
theorem pcalls_of_runs (hmix : P.follows .mixedOrders = true) {f : Nat} {fn : Func} {c : Code} {cd : Cd} (hf : P.funcs[f]? = some fn) (hok : fnOk P f = true) (hb : fn.body = some c) (hc : compC P M cm c = some cd)
    {rs : List Nat} (hrs : fn.results = (rs.map ResultVar.tmp).toArray) {args : List AV} {r : AV} {φ : Nat} (h : RunsX P φ (Gives rs r) [.c cd] (args ++ List.replicate (fn.ntmps - args.length) (.tup [])) [] 0) : PCalls P f args r := by
  refine ⟨hok, fun X w vals hX ha => ?_⟩
  refine calls_of_wp hf hb (fun b k cs => ?_)
  have hlen := ha.len
  have st : St w (fun _ => False) X none4 0 (args ++ List.replicate (fn.ntmps - args.length) (.tup [])) [] 0 { tmps := vals.toArray ++ Array.replicate (fn.ntmps - vals.toArray.size) undef, defers := [] } w := by
    refine ⟨rfl, fun _ _ => 0, ⟨fun f d g cs h => by simp [find] at h, fun f d g cs _ _ _ _ h => by simp [find] at h, fun f d g b h => by simp [find] at h, fun f d g cs h => by simp [find] at h, rfl, rfl, rfl, Nat.le_refl _, fun _ _ _ => rfl, hX⟩, ?_⟩
    unfold TRel
    simp only [Array.toList_append, Array.toList_replicate, List.size_toArray, hlen]
    have hL : Lof [] (fun _ _ => 0) = none4 := by
      funext f d g b; apply propext; constructor
      · rintro ⟨⟨cs, h⟩, _⟩; simp [find] at h
      · intro h; exact h.elim
    rw [hL]
    exact ⟨ha.weak.append (reps_fill _), Move.refl _ _ _⟩
  have hr : RunsTo P φ (Gives rs r) [.c cd] (args ++ List.replicate (fn.ntmps - args.length) (.tup [])) [] 0 := h
  obtain ⟨e, a', w', t', H', nx', he, hg, st', harr⟩ := runs_sim (M := M) (cm := cm) hmix hr (k0 := k) (todo := .code c :: k) (.code hc .nil) st b cs
  obtain ⟨hdef, bm, hrel, htr, _⟩ := st'
  refine ⟨e, a', w', ?_, harr⟩
  have hgr := gets_reps htr rs
  unfold Gives retK at hg
  obtain ⟨vs', ids, hv, hl', hany, hfz⟩ := frz_map (fun v val α ok r' h1 h2 => frz_ok hrel 9 v val ok r' h1 h2) _ _ _ _ hgr hg
  simp at hv
  have hpure := hfz none4 0 (fun _ _ _ _ h => h.elim)
  have hbelow : Below w.heap.size w w' := ⟨hrel.os, hrel.tape, hrel.output, hrel.size, fun b hb => hrel.keep b hb (fun h => h)⟩
  have hres := run_results (P := P) hrs a'.tmps w'
  have hrep : Rep none4 X 0 w' true r (match rs.map (fun i => a'.tmps.getD i undef) with | [v] => v | vs => .tuple vs.toArray) := by
    rw [← hv]
    generalize rs.map (fun i => a'.tmps.getD i undef) = us at hpure ⊢
    have tup : Rep none4 X 0 w' true (.tup vs') (.tuple us.toArray) := .tup (by simpa using hpure.len) (fun j x hx => by have := hpure.get j x hx; simpa [List.getD] using this)
    cases hpure with
    | nil => exact tup
    | cons h1 t =>
      cases t with
      | nil => exact h1
      | cons h2 t => exact tup
  rcases he with rfl | rfl
  · exact ⟨hdef, _, hres, _, rfl, hbelow, hrep⟩
  · exact ⟨hdef, _, hres, _, rfl, hbelow, hrep⟩
theorem Rel.sel {bm : Nat → Nat → Nat} {H : Heap} {nx : Nat} {w : World} (r : Rel w0 O X bm H nx w) (ks : List (Nat × Nat)) : Rel w0 O X bm (Ev.sel ks H) nx w ∧ Move (Lof H bm) nx w (Lof (Ev.sel ks H) bm) nx w := by
  have sub : ∀ f d g b, Lof (Ev.sel ks H) bm f d g b → Lof H bm f d g b := by
    rintro f d g b ⟨⟨cs, h⟩, rfl⟩
    exact Lof.mk (find_sel h).1
  have m : Move (Lof H bm) nx w (Lof (Ev.sel ks H) bm) nx w :=
    ⟨Nat.le_refl _, Nat.le_refl _, fun f d g b h _ => sub _ _ _ _ h, fun f d g b h _ => .inr ⟨f, d, g, sub _ _ _ _ h⟩, fun _ _ h _ => h, fun _ _ _ _ vs _ _ _ h => ⟨vs, h, rfl⟩⟩
  refine ⟨⟨?_, ?_, ?_, ?_, r.os, r.tape, r.output, r.size, r.keep, r.xlt⟩, m⟩
  · intro f d g cs h
    obtain ⟨vs, E, h1, h2, h3⟩ := r.blk _ _ _ _ (find_sel h).1
    exact ⟨vs, E, h1, h2, fun j x hx => ⟨(h3 j x hx).1.move m, (h3 j x hx).2⟩⟩
  · intro f d g cs f' d' g' cs' h h'
    exact r.inj _ _ _ _ _ _ _ _ (find_sel h).1 (find_sel h').1
  · intro f d g b h; exact r.gen _ _ _ _ (find_sel h).1
  · intro f d g cs h; exact r.own _ _ _ _ (find_sel h).1
/-- It ends, handing back that, with that heap left. -/
def GivesH (ks : List (Nat × Nat)) (rs : List Nat) (r : AV) (Hout : Heap) (nx' : Nat) (t : List AV) (H : Heap) (nx : Nat) : Prop := Ev.sel ks H = Hout ∧ retv (gets t rs) = r ∧ nx = nx'

/-- A function's contract, with a part of the heap. -/
theorem hcalls_of_runs (hmix : P.follows .mixedOrders = true) {f : Nat} {fn : Func} {c : Code} {cd : Cd} (hf : P.funcs[f]? = some fn) (hok : fnOk P f = true) (hb : fn.body = some c) (hc : compC P M cm c = some cd)
    {rs : List Nat} (hrs : fn.results = (rs.map ResultVar.tmp).toArray) {args : List AV} {Hin Hout : Heap} {nx nx' : Nat} {r : AV} {φ : Nat} (ks : List (Nat × Nat)) (h : RunsX P φ (GivesH ks rs r Hout nx') [.c cd] (args ++ List.replicate (fn.ntmps - args.length) (.tup [])) Hin nx) : HCalls P f args Hin nx r Hout nx' := by
  refine ⟨hok, fun X w bm vals hrel0 ha => ?_⟩
  refine calls_of_wp hf hb (fun b k cs => ?_)
  have hlen := ha.len
  have st : St w (Own Hin bm) X (Lof Hin bm) nx (args ++ List.replicate (fn.ntmps - args.length) (.tup [])) Hin nx { tmps := vals.toArray ++ Array.replicate (fn.ntmps - vals.toArray.size) undef, defers := [] } w := by
    refine ⟨rfl, bm, hrel0, ?_, Move.refl _ _ _⟩
    unfold TRel
    simp only [Array.toList_append, Array.toList_replicate, List.size_toArray, hlen]
    exact ha.append (reps_fill _)
  have hr : RunsTo P φ (GivesH ks rs r Hout nx') [.c cd] (args ++ List.replicate (fn.ntmps - args.length) (.tup [])) Hin nx := h
  obtain ⟨e, a', w', t', H', nx1, he, hg, st', harr⟩ := runs_sim (M := M) (cm := cm) hmix hr (k0 := k) (todo := .code c :: k) (.code hc .nil) st b cs
  obtain ⟨hdef, bm', hrel, htr, hmv⟩ := st'
  refine ⟨e, a', w', ?_, harr⟩
  have hgr := gets_reps htr rs
  obtain ⟨rfl, hrv, rfl⟩ := hg
  obtain ⟨hrel2, hm2⟩ := hrel.sel ks
  have hres := run_results (P := P) hrs a'.tmps w'
  have hrep : Rep (Lof H' bm') X nx1 w' false r (match rs.map (fun i => a'.tmps.getD i undef) with | [v] => v | vs => .tuple vs.toArray) := by
    rw [← hrv]
    generalize rs.map (fun i => a'.tmps.getD i undef) = us at hgr ⊢
    have tup : Rep (Lof H' bm') X nx1 w' false (.tup (gets t' rs)) (.tuple us.toArray) := .tup (by simpa using hgr.len) (fun j x hx => by have := hgr.get j x hx; simpa [List.getD] using this)
    generalize gets t' rs = vs' at hgr tup ⊢
    cases hgr with
    | nil => exact tup
    | cons h1 t =>
      cases t with
      | nil => exact h1
      | cons h2 t => exact tup
  rcases he with rfl | rfl
  · exact ⟨hdef, _, hres, _, bm', rfl, hrel2, hmv.trans hm2, hrep.move hm2⟩
  · exact ⟨hdef, _, hres, _, bm', rfl, hrel2, hmv.trans hm2, hrep.move hm2⟩

/-- Temporaries written through; loads by what nobody writes. -/
def mset (l1 l2 : List Nat) : Nat → Nat := fun i => if l1.contains i then 1 else if l2.contains i then 2 else 0
def cset (l : List Nat) (l2 : List Nat := []) : Nat → Nat := fun f => if l.contains f then 1 else if l2.contains f then 2 else 0
def compF (P : Program) (M : Nat → Nat) (cm : Nat → Nat) (fn : Func) : Option Cd := match fn.body with | some c => compC P M cm c | none => none
theorem pcallsF (hmix : P.follows .mixedOrders = true) {f : Nat} {fn : Func} {cd : Cd} (hf : P.funcs[f]? = some fn) (hok : fnOk P f = true) (hc : compF P M cm fn = some cd) {n : Nat} (hn : fn.ntmps = n)
    {rs : List Nat} (hrs : fn.results = (rs.map ResultVar.tmp).toArray) {args : List AV} {r : AV} (h : RunsX P 0 (Gives rs r) [.c cd] (args ++ List.replicate (n - args.length) (.tup [])) [] 0) : PCalls P f args r := by
  subst hn
  unfold compF at hc
  split at hc
  · rename_i c hb
    exact pcalls_of_runs hmix hf hok hb hc hrs h
  · cases hc
theorem hcallsF (hmix : P.follows .mixedOrders = true) {f : Nat} {fn : Func} {cd : Cd} (hf : P.funcs[f]? = some fn) (hok : fnOk P f = true) (hc : compF P M cm fn = some cd) {n : Nat} (hn : fn.ntmps = n)
    {rs : List Nat} (hrs : fn.results = (rs.map ResultVar.tmp).toArray) {args : List AV} {Hin Hout : Heap} {nx nx' : Nat} {r : AV} (φ : Nat) (ks : List (Nat × Nat)) (h : RunsX P φ (GivesH ks rs r Hout nx') [.c cd] (args ++ List.replicate (n - args.length) (.tup [])) Hin nx) : HCalls P f args Hin nx r Hout nx' := by
  subst hn
  unfold compF at hc
  split at hc
  · rename_i c hb
    exact hcalls_of_runs hmix hf hok hb hc hrs ks h
  · cases hc
end
end Go.Ev
