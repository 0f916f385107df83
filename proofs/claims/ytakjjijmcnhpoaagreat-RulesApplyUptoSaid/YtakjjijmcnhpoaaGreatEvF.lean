/- The evaluator E: summaries of functions; builtins; all that stands in a region where nothing is written. The evaluator E: calls of summaries and of builtins that write nothing. The evaluator E: calls, builtins, assignments where nothing is written. The evaluator E: all that may stand where nothing is written. The evaluator E: stores. -/
import Derived.Test.YtakjjijmcnhpoaaGreatEvE
namespace Go.Ev
open Go

/-- Every function that has a body is entered. -/
def okFuncs (P : Program) : Bool := P.funcs.toList.all fun fn => !(fn.name == "runtime.NumGoroutine")
structure FnOk (P : Program) : Prop where
  ok : ∀ (f : Nat) fn, P.funcs[f]? = some fn → (fn.name == "runtime.NumGoroutine") = false
theorem FnOk.of {P : Program} (h : okFuncs P = true) : FnOk P := ⟨fun f fn hf => by
  have := List.all_eq_true.1 h fn (Array.mem_toList_iff.2 (Array.mem_of_getElem? hf))
  simpa using this⟩

/-- Nothing that was there is changed. -/
structure Quiet (w w' : World) : Prop where
  os : w'.os = w.os
  tape : w'.tape = w.tape
  output : w'.output = w.output
  size : w.heap.size ≤ w'.heap.size
  same : ∀ b, b < w.heap.size → w'.heap[b]? = w.heap[b]?

def ArgRel (P : Program) (w : World) (Fz : Nat → Prop) (t : TypeId) (d : D) (v : Value) : Prop := DRel P w Fz t d v.cells.toList ∧ VShape (mk P t d) v
def ArgsRel (P : Program) (w : World) (Fz : Nat → Prop) (ps : List TypeId) (ds : List D) (args : Array Value) : Prop :=
  ds.length = args.size ∧ ps.length = args.size ∧ ∀ (i : Nat) t d v, ps[i]? = some t → ds[i]? = some d → args[i]? = some v → ArgRel P w Fz t d v
/-- A slice in new memory that its owner alone knows. -/
def OwnRel (P : Program) (w : World) (Fz : Nat → Prop) (lo : Nat) (e : TypeId) (es : List D) (v : Value) : Prop :=
  ∃ b cap c, v = .slice (some ⟨b, 0, none⟩) es.length cap ∧ lo ≤ b ∧ w.heap[b]? = some (.cells c e (0, 0)) ∧ es.length ≤ cap ∧ cap * P.cellsOf e ≤ c.size ∧ ¬ Fz b ∧
    ∀ (i : Nat) x, es[i]? = some x → DRel P w Fz e x (cellsIn c (i * P.cellsOf e) (P.cellsOf e))
def ResRel (P : Program) (w : World) (Fz : Nat → Prop) (lo : Nat) : RK → D → Value → Prop
  | .dat t, d, v => ArgRel P w Fz t d v
  | .own e, d, v => (d.nl = true ∧ v = .slice none 0 0) ∨ (d.nl = false ∧ OwnRel P w Fz lo e d.es v)
  | .ownN e, d, v => (d.es = [] ∧ v = .slice none 0 0) ∨ (d.es ≠ [] ∧ OwnRel P w Fz lo e d.es v)
def ResAll (P : Program) (w : World) (Fz : Nat → Prop) (lo : Nat) (rs : List RK) (d : D) (v : Value) : Prop :=
  match rs with
  | [r] => ResRel P w Fz lo r d v
  | rs => ∃ vs : Array Value, v = .tuple vs ∧ vs.size = rs.length ∧ ∀ (i : Nat) r x, rs[i]? = some r → vs[i]? = some x → ResRel P w Fz lo r (d.f i) x
/-- Results beside which elements are told. -/
def ResW (P : Program) (w : World) (Fz : Nat → Prop) (lo : Nat) (rs : List RK) (d : D) (v : Value) : Prop :=
  match rs with
  | [r] => ResRel P w Fz lo r (d.f 0) v
  | rs => ∃ vs : Array Value, v = .tuple vs ∧ vs.size = rs.length ∧ ∀ (i : Nat) r x, rs[i]? = some r → vs[i]? = some x → ResRel P w Fz lo r (d.f i) x
/-- Nothing that was there is changed but for one block. -/
structure QuietBut (b : Nat) (w w' : World) : Prop where
  os : w'.os = w.os
  tape : w'.tape = w.tape
  output : w'.output = w.output
  size : w.heap.size ≤ w'.heap.size
  same : ∀ k, k < w.heap.size → k ≠ b → w'.heap[k]? = w.heap[k]?
/-- An array that may be written. -/
structure ArrAt (P : Program) (w : World) (Fz : Nat → Prop) (e : TypeId) (es : List D) (b cap : Nat) (c : Array Value) : Prop where
  blk : w.heap[b]? = some (.cells c e (0, 0))
  le : es.length ≤ cap
  fit : cap * P.cellsOf e ≤ c.size
  nfz : ¬ Fz b
  els : ∀ (i : Nat) x, es[i]? = some x → DRel P w Fz e x (cellsIn c (i * P.cellsOf e) (P.cellsOf e))
/-- What a summary promises. -/
structure Contract (P : Program) (s : Spec) : Prop where
  body : ∃ fn, P.funcs[s.f]? = some fn ∧ fn.body.isSome = true
  call : s.wr = none → ∀ (Fz : Nat → Prop) (w : World) (args : Array Value) (ds : List D) (d : D), (∀ b, Fz b → b < w.heap.size) → ArgsRel P w Fz s.ps ds args → s.run ds = some d →
    Calls P s.f args w fun e w' => ∃ v, e = .returned v ∧ Quiet w w' ∧ ∃ Fz', (∀ b, Fz b → Fz' b) ∧ (∀ b, Fz' b → Fz b ∨ (w.heap.size ≤ b ∧ b < w'.heap.size)) ∧ ResAll P w' Fz' w.heap.size s.rs d v
  callW : ∀ i, s.wr = some i → ∀ (Fz : Nat → Prop) (w : World) (args : Array Value) (ds : List D) (d : D) (e : TypeId) (b cap : Nat) (c : Array Value), (∀ b, Fz b → b < w.heap.size) → ds.length = args.size → s.ps.length = args.size →
    (∀ (j : Nat) t d v, j ≠ i → s.ps[j]? = some t → ds[j]? = some d → args[j]? = some v → ArgRel P w Fz t d v) → args[i]? = some (.slice (some ⟨b, 0, none⟩) (ds.getD i .bad).es.length cap) → (∃ t, s.ps[i]? = some t ∧ ty P t = .slice e) →
    ArrAt P w Fz e (ds.getD i .bad).es b cap c → s.run ds = some d →
    Calls P s.f args w fun en w' => ∃ v, en = .returned v ∧ QuietBut b w w' ∧ ∃ Fz', (∀ b, Fz b → Fz' b) ∧ (∀ b, Fz' b → Fz b ∨ (w.heap.size ≤ b ∧ b < w'.heap.size)) ∧ ResW P w' Fz' w.heap.size s.rs d v ∧
      (d.f s.rs.length).es.length = (ds.getD i .bad).es.length ∧ ∃ c', c'.size = c.size ∧ ArrAt P w' Fz' e (d.f s.rs.length).es b cap c'
  callN : ∀ i, s.wr = some i → s.wn = true → ∀ (Fz : Nat → Prop) (w : World) (args : Array Value) (ds : List D) (d : D), (∀ b, Fz b → b < w.heap.size) → ds.length = args.size → s.ps.length = args.size →
    (∀ (j : Nat) t d v, j ≠ i → s.ps[j]? = some t → ds[j]? = some d → args[j]? = some v → ArgRel P w Fz t d v) → args[i]? = some (.slice none 0 0) → (ds.getD i .bad).es = [] → s.run ds = some d →
    Calls P s.f args w fun en w' => ∃ v, en = .returned v ∧ Quiet w w' ∧ ∃ Fz', (∀ b, Fz b → Fz' b) ∧ (∀ b, Fz' b → Fz b ∨ (w.heap.size ≤ b ∧ b < w'.heap.size)) ∧ ResW P w' Fz' w.heap.size s.rs d v ∧ (d.f s.rs.length).es = []

section
variable {P : Program}

def Env.after (Γ : Env) (Fz' : Nat → Prop) (n : Nat) (p : Option Place) : Env := ⟨fun q => match p with | some p => if q = n then some p else Γ.β q | none => Γ.β q, Fz'⟩
theorem Env.after_ne (Γ : Env) (Fz' : Nat → Prop) {n q : Nat} (p : Option Place) (h : q ≠ n) : (Γ.after Fz' n p).β q = Γ.β q := by unfold Env.after; cases p <;> simp [h]
theorem Env.after_at (Γ : Env) (Fz' : Nat → Prop) (n : Nat) (p : Place) : (Γ.after Fz' n (some p)).β n = some p := by simp [Env.after]
theorem Env.after_some {Γ : Env} {Fz' : Nat → Prop} {n q : Nat} {p : Option Place} {r : Place} (hn : Γ.β n = none) (h : (Γ.after Fz' n p).β q = some r) : (q = n ∧ p = some r) ∨ (q ≠ n ∧ Γ.β q = some r) := by
  by_cases e : q = n
  · subst e
    cases p with
    | none => simp [Env.after, hn] at h
    | some p => rw [Env.after_at] at h; cases h; exact .inl ⟨rfl, rfl⟩
  · rw [Env.after_ne _ _ _ e] at h; exact .inr ⟨e, h⟩

/-- A call that changes nothing, and may give a new thing. -/
theorem Grow.call {w w' : World} {Γ : Env} {cv : Nat → Prop} {obs : List Ob} (h : Mem P w Γ cv obs) (hq : Quiet w w') {Fz' : Nat → Prop} (h1 : ∀ b, Γ.Fz b → Fz' b) (h2 : ∀ b, Fz' b → Γ.Fz b ∨ (w.heap.size ≤ b ∧ b < w'.heap.size))
    (n : Nat) (hn : Γ.β n = none) (p : Option Place)
    (hp : ∀ q, p = some q → (∃ ob, obs[n]? = some ob ∧ Shape ob q ∧ Content P w' (Γ.after Fz' n p) ob q) ∧ Backed P w' q ∧ ∀ b, q.block = some b → w.heap.size ≤ b ∧ ¬ Fz' b) :
    Grow P Γ (Γ.after Fz' n p) w w' cv obs n (n + 1) := by
  have hkeep : ∀ o q, Γ.β o = some q → (Γ.after Fz' n p).β o = some q := fun o q ho => by
    rw [Env.after_ne _ _ _ (by rintro rfl; rw [hn] at ho; cases ho)]; exact ho
  have hfzs : ∀ b, Γ.Fz b → w'.heap[b]? = w.heap[b]? := fun b hb => hq.same b (h.fzlt b hb)
  have hext : Ext (fun _ => True) w w' Γ (Γ.after Fz' n p) := ⟨h1, hfzs, fun o q _ => hkeep o q⟩
  refine ⟨fun base => ⟨hq.os, hq.tape, hq.output, hq.size, h1, hfzs, fun b hb _ => hq.same b hb, fun b hb => ?_, fun o q _ => hkeep o q, fun o q b ho hb => ?_⟩, ⟨fun o q ho => ?_, fun o o' q q' b ho ho' hb hb' => ?_, fun b hb => ?_⟩, fun fl hf o q b ob ho hq' hb hob hrw hfz => ?_, hkeep, fun o ho => ?_, hq.same⟩
  · rcases h2 b hb with h | h
    · exact .inl h
    · exact .inr (.inl h.1)
  · rcases Env.after_some hn ho with ⟨_, e⟩ | ⟨_, e⟩
    · exact .inl ((hp q e).2.2 b hb).1
    · exact .inr ⟨o, q, e, hb⟩
  · rcases Env.after_some hn ho with ⟨rfl, e⟩ | ⟨_, e⟩
    · obtain ⟨⟨ob, g1, g2, g3⟩, g4, _⟩ := hp q e
      exact ⟨ob, g1, g2, g4, fun _ => g3⟩
    · obtain ⟨ob, g1, g2, g3, g4⟩ := h.ob o q e
      have hbl : ∀ b, q.block = some b → w'.heap[b]? = w.heap[b]? := fun b hb => hq.same b (g3.lt hb)
      exact ⟨ob, g1, g2, g3.same hbl, fun hc => (g4 hc).same hbl ⟨h1, hfzs, fun o q _ => hkeep o q⟩⟩
  · rcases Env.after_some hn ho with ⟨e1, e⟩ | ⟨_, e⟩ <;> rcases Env.after_some hn ho' with ⟨e1', e'⟩ | ⟨_, e'⟩
    · rw [e1, e1']
    · have := ((hp q e).2.2 b hb).1
      obtain ⟨_, _, _, g3, _⟩ := h.ob o' q' e'
      have := g3.lt hb'
      omega
    · have := ((hp q' e').2.2 b hb').1
      obtain ⟨_, _, _, g3, _⟩ := h.ob o q e
      have := g3.lt hb
      omega
    · exact h.inj o o' q q' b e e' hb hb'
  · rcases h2 b hb with h' | h'
    · have := h.fzlt b h'; have := hq.size; omega
    · exact h'.2
  · rcases Env.after_some hn hq' with ⟨e1, e⟩ | ⟨_, e⟩
    · exact ((hp q e).2.2 b hb).2 hfz
    · rcases h2 b hfz with g | g
      · exact hf o q b ob ho e hb hob hrw g
      · obtain ⟨_, _, _, g3, _⟩ := h.ob o q e
        have := g3.lt hb
        omega
  · by_cases e : o = n
    · exact .inr (by omega)
    · rw [Env.after_ne _ _ _ e] at ho; exact .inl ho
theorem Grow.trans {w w' w'' : World} {Γ Γ' Γ'' : Env} {cv : Nat → Prop} {obs : List Ob} {lo hi : Nat} (h : Grow P Γ Γ' w w' cv obs lo hi) (k : Grow P Γ' Γ'' w' w'' cv obs lo hi) : Grow P Γ Γ'' w w'' cv obs lo hi :=
  ⟨fun base => (h.step base).trans (k.step base), k.mem, fun fl hf => k.free fl (h.free fl hf), fun o p hp => k.keep o p (h.keep o p hp), fun o ho => (k.dom o ho).elim (h.dom o) .inr, fun b hb => (k.old b (Nat.lt_of_lt_of_le hb (h.step 0).size)).trans (h.old b hb)⟩
theorem Grow.wide {w w' : World} {Γ Γ' : Env} {cv : Nat → Prop} {obs : List Ob} {lo hi lo' hi' : Nat} (h : Grow P Γ Γ' w w' cv obs lo hi) (h1 : lo' ≤ lo) (h2 : hi ≤ hi') : Grow P Γ Γ' w w' cv obs lo' hi' :=
  ⟨h.step, h.mem, h.free, h.keep, fun o ho => (h.dom o ho).imp id fun h => ⟨by omega, by omega⟩, h.old⟩

/-! ### The results of a call -/
theorem ArgRel.vrel {w : World} {Γ : Env} {t : TypeId} {d : D} {v : Value} (h : ArgRel P w Γ.Fz t d v) : VRel P w Γ (mk P t d) v := .of1 (.inr ⟨mk_rel h.1, h.2⟩) mk_tup
/-- What is told of one result, when the thing that it may bring lies at place n. -/
def ownPlace (e : TypeId) (v : Value) (size : Nat) : Place :=
  match v with
  | .slice (some a) n _ => .arr a.block n size e false
  | _ => .nil e
/-- One result: what E makes of it. -/
inductive OneOut (obs : List Ob) : RK → D → A → List Ob → Prop
  | dat {t d} : OneOut obs (.dat t) d (mk P t d) obs
  | ownNil {e d} (h : d.nl = true) : OneOut obs (.own e) d .nsl obs
  | own {e d} (h : d.nl = false) : OneOut obs (.own e) d (.own obs.length) (obs ++ [.arr e d.es false false true])
  | ownN {e d} : OneOut obs (.ownN e) d (.own obs.length) (obs ++ [.arr e d.es true false true])
theorem OneOut.wk {obs obs1 : List Ob} {k : RK} {d : D} {a : A} (h : OneOut (P := P) obs k d a obs1) : Pre obs obs1 := by
  cases h <;> first | exact Pre.refl _ | exact Pre.append _ _
theorem OneOut.rel {obs obs1 obsS : List Ob} {k : RK} {d : D} {a : A} (h : OneOut (P := P) obs k d a obs1) {w w' : World} {Γ : Env} {cv : Nat → Prop} (hm : Mem P w Γ cv obsS) (wk : Wk obs1 obsS) (hq : Quiet w w') {Fz' : Nat → Prop} (h1 : ∀ b, Γ.Fz b → Fz' b) (h2 : ∀ b, Fz' b → Γ.Fz b ∨ (w.heap.size ≤ b ∧ b < w'.heap.size))
    (hn : obs.length < obs1.length → Γ.β obs.length = none) {v : Value} (hv : ResRel P w' Fz' w.heap.size k d v) : ∃ Γ', VRel P w' Γ' a v ∧ Grow P Γ Γ' w w' cv obsS obs.length obs1.length ∧ Γ'.Fz = Fz' := by
  have hnone : Γ.β obsS.length = none := by
    cases hb : Γ.β obsS.length with
    | none => rfl
    | some q => have := hm.lt hb; omega
  have none_ : Grow P Γ (Γ.after Fz' obsS.length none) w w' cv obsS obs.length obs.length := { Grow.call hm hq h1 h2 _ hnone none (fun q hq => by cases hq) with dom := fun o ho => .inl ho }
  have own_ : Γ.β obs.length = none → ∀ e (es : List D) (nl : Bool) ob', obsS[obs.length]? = some ob' → (Ob.arr e es nl false true).weak ob' → (nl = true → es ≠ []) → OwnRel P w' Fz' w.heap.size e es v → ∃ Γ', VRel P w' Γ' (.own obs.length) v ∧ Grow P Γ Γ' w w' cv obsS obs.length (obs.length + 1) ∧ Γ'.Fz = Fz' := fun hn e es nl ob' hob hw hnl hr => by
    obtain ⟨b, cap, c, rfl, g1, g2, g3, g4, g5, g6⟩ := hr
    refine ⟨Γ.after Fz' obs.length (some (.arr b es.length c.size e false)), .mk1 (.own (Env.after_at _ _ _ _) g3 g4 (by simp)) rfl (by simp) rfl, ?_, rfl⟩
    refine Grow.call hm hq h1 h2 _ hn _ (fun q hq => ?_)
    cases hq
    refine ⟨⟨ob', hob, Shape.weak (ob := .arr e es nl false true) ⟨rfl, rfl, fun h => ?_, by simp⟩ hw, Content.weak (ob := .arr e es nl false true) ?_ hw⟩, ⟨c, g2, rfl, ?_⟩, fun b' hb => ?_⟩
    · intro h0; exact hnl h (List.eq_nil_of_length_eq_zero h0)
    · intro c' ty fz hc i x hx
      rw [g2] at hc; cases hc
      exact g6 i x hx
    · have : es.length * P.cellsOf e ≤ cap * P.cellsOf e := Nat.mul_le_mul_right _ g3
      omega
    · simp [Place.block] at hb; subst hb
      exact ⟨g1, g5⟩
  cases h with
  | dat => exact ⟨_, ArgRel.vrel (Γ := Γ.after Fz' obsS.length none) hv, none_, rfl⟩
  | ownNil h =>
    rcases hv with ⟨_, rfl⟩ | ⟨h', _⟩
    · exact ⟨_, .mk1 .nsl rfl (by simp) rfl, none_, rfl⟩
    · rw [h] at h'; cases h'
  | own h =>
    rcases hv with ⟨h', _⟩ | ⟨_, hv⟩
    · rw [h] at h'; cases h'
    · rename_i e _
      obtain ⟨ob', g1, g2⟩ := wk obs.length (.arr e d.es false false true) (by simp)
      obtain ⟨Γ', f1, f2, f3⟩ := own_ (hn (by simp)) e d.es false ob' g1 g2 (by simp) hv
      exact ⟨Γ', f1, f2.wide (Nat.le_refl _) (by simp), f3⟩
  | ownN =>
    rename_i e
    obtain ⟨ob', g1, g2⟩ := wk obs.length (.arr e d.es true false true) (by simp)
    rcases hv with ⟨h', rfl⟩ | ⟨h', hv⟩
    · rw [h'] at g2
      refine ⟨Γ.after Fz' obs.length (some (.nil e)), .mk1 (.ownNil (Env.after_at _ _ _ _)) rfl (by simp) rfl, ?_, rfl⟩
      refine Grow.wide (hi := obs.length + 1) ?_ (Nat.le_refl _) (by simp)
      refine Grow.call hm hq h1 h2 _ (hn (by simp)) _ (fun q hq => ?_)
      cases hq
      exact ⟨⟨ob', g1, Shape.weak (ob := .arr e [] true false true) ⟨rfl, rfl, rfl⟩ g2, Content.weak (ob := .arr e [] true false true) trivial g2⟩, trivial, fun b hb => by simp [Place.block] at hb⟩
    · obtain ⟨Γ', f1, f2, f3⟩ := own_ (hn (by simp)) e d.es true ob' g1 g2 (fun _ => h') hv
      exact ⟨Γ', f1, f2.wide (Nat.le_refl _) (by simp), f3⟩

end
end Go.Ev

namespace Go.Ev
open Go

section
variable {P : Program}

/-- The results, one by one. -/
inductive OutList (P : Program) (g : Nat → D) : List Ob → List RK → Nat → List A → List Ob → Prop
  | nil {obs i} : OutList P g obs [] i [] obs
  | cons {obs obs1 obs2 k rs i a as} (h : OneOut (P := P) obs k (g i) a obs1) (t : OutList P g obs1 rs (i + 1) as obs2) : OutList P g obs (k :: rs) i (a :: as) obs2
theorem outE_ok {R : Type} {g : Nat → D} {r : R} : ∀ {rs : List RK} {i : Nat} {acc : List A} {obs : List Ob} {K : List A → List Ob → Option R}, outE P rs g i acc obs K = some r →
    ∃ as obs1, K (acc.reverse ++ as) obs1 = some r ∧ OutList P g obs rs i as obs1
  | [], i, acc, obs, K, h => ⟨[], obs, by simpa [outE] using h, .nil⟩
  | .dat t :: rs, i, acc, obs, K, h => by
    simp only [outE] at h
    obtain ⟨as, obs1, h1, h2⟩ := outE_ok h
    exact ⟨mk P t (g i) :: as, obs1, by simpa using h1, .cons .dat h2⟩
  | .own e :: rs, i, acc, obs, K, h => by
    simp only [outE] at h
    rcases cnd_some h with ⟨hb, h⟩ | ⟨hb, h⟩
    · obtain ⟨as, obs1, h1, h2⟩ := outE_ok h
      exact ⟨.nsl :: as, obs1, by simpa using h1, .cons (.ownNil hb) h2⟩
    · obtain ⟨as, obs1, h1, h2⟩ := outE_ok h
      exact ⟨.own obs.length :: as, obs1, by simpa using h1, .cons (.own hb) h2⟩
  | .ownN e :: rs, i, acc, obs, K, h => by
    simp only [outE] at h
    obtain ⟨as, obs1, h1, h2⟩ := outE_ok h
    exact ⟨.own obs.length :: as, obs1, by simpa using h1, .cons .ownN h2⟩
theorem OutList.wk {g : Nat → D} {obs obs1 : List Ob} {rs : List RK} {i : Nat} {as : List A} (h : OutList P g obs rs i as obs1) : Pre obs obs1 := by
  induction h with
  | nil => exact Pre.refl _
  | cons h _ ih => exact h.wk.trans ih
theorem OutList.len {g : Nat → D} {obs obs1 : List Ob} {rs : List RK} {i : Nat} {as : List A} (h : OutList P g obs rs i as obs1) : as.length = rs.length := by
  induction h with
  | nil => rfl
  | cons _ _ ih => simp [ih]
/-- Results that are data alone. -/
theorem OutList.dats {g : Nat → D} {obs obs1 : List Ob} {rs : List RK} {i : Nat} {as : List A} (h : OutList P g obs rs i as obs1) (hd : rs.filter isOwn = []) {w' : World} {Γ' : Env} {lo : Nat} :
    obs1 = obs ∧ ∀ (vs : Nat → Value), (∀ (j : Nat) r, rs[j]? = some r → ResRel P w' Γ'.Fz lo r (g (i + j)) (vs j)) → ∀ (j : Nat) a, as[j]? = some a → VRel1 P w' Γ' a (vs j) := by
  induction h with
  | nil => exact ⟨rfl, fun vs _ j a h => by simp at h⟩
  | cons h t ih =>
    rename_i obs obs1 obs2 k rs i a as
    cases h with
    | dat =>
      rename_i ty
      have hd' : rs.filter isOwn = [] := by simpa [isOwn] using hd
      obtain ⟨h1, h2⟩ := ih hd'
      refine ⟨h1, fun vs hv j a ha => ?_⟩
      cases j with
      | zero =>
        simp at ha; subst ha
        have := hv 0 (.dat ty) (by simp)
        exact (ArgRel.vrel (Γ := Γ') this).to1 mk_tup
      | succ j =>
        exact h2 (fun j => vs (j + 1)) (fun j r hr => by
          have := hv (j + 1) r (by simpa using hr)
          rwa [show i + (j + 1) = i + 1 + j by omega] at this) j a (by simpa using ha)
    | ownNil => simp [isOwn] at hd
    | own => simp [isOwn] at hd
    | ownN => simp [isOwn] at hd
theorem OutList.rel {g : Nat → D} {obs obs1 obsS : List Ob} {rs : List RK} {i : Nat} {as : List A} (h : OutList P g obs rs i as obs1) (hone : (rs.filter isOwn).length ≤ 1) {w w' : World} {Γ : Env} {cv : Nat → Prop} (hm : Mem P w Γ cv obsS) (wk : Wk obs1 obsS)
    (hq : Quiet w w') {Fz' : Nat → Prop} (h1 : ∀ b, Γ.Fz b → Fz' b) (h2 : ∀ b, Fz' b → Γ.Fz b ∨ (w.heap.size ≤ b ∧ b < w'.heap.size)) (hn : obs.length < obs1.length → Γ.β obs.length = none)
    {vs : Nat → Value} (hv : ∀ (j : Nat) r, rs[j]? = some r → ResRel P w' Fz' w.heap.size r (g (i + j)) (vs j)) :
    ∃ Γ', (∀ (j : Nat) a, as[j]? = some a → VRel1 P w' Γ' a (vs j)) ∧ Grow P Γ Γ' w w' cv obsS obs.length obs1.length ∧ Γ'.Fz = Fz' := by
  induction h generalizing vs with
  | nil =>
    rename_i obs i
    have hnone : Γ.β obsS.length = none := by
      cases hb : Γ.β obsS.length with
      | none => rfl
      | some q => have := hm.lt hb; omega
    refine ⟨Γ.after Fz' obsS.length none, fun j a h => by simp at h, ?_, rfl⟩
    exact { Grow.call hm hq h1 h2 _ hnone none (fun q hq => by cases hq) with dom := fun o ho => .inl ho }
  | cons h t ih =>
    rename_i obs obs1 obs2 k rs i a as
    cases ho : isOwn k with
    | false =>
      cases h with
      | dat =>
        rename_i ty
        obtain ⟨Γ', f1, f2, f3⟩ := ih (by simpa [ho] using hone) wk hn (vs := fun j => vs (j + 1)) (fun j r hr => by
          have := hv (j + 1) r (by simpa using hr)
          rwa [show i + (j + 1) = i + 1 + j by omega] at this)
        refine ⟨Γ', fun j a ha => ?_, f2, f3⟩
        cases j with
        | zero =>
          simp at ha; subst ha
          have := hv 0 (.dat ty) (by simp)
          rw [← f3] at this
          exact (ArgRel.vrel (Γ := Γ') this).to1 mk_tup
        | succ j => exact f1 j a (by simpa using ha)
      | ownNil => cases ho
      | own => cases ho
      | ownN => cases ho
    | true =>
      have hd : rs.filter isOwn = [] := by
        simp [ho] at hone
        exact List.filter_eq_nil_iff.2 (by simpa using hone)
      have e12 := (t.dats (w' := w') (Γ' := Γ) (lo := 0) hd).1
      have wk1 : Wk obs1 obsS := by rw [← e12]; exact wk
      rw [e12] at hn
      obtain ⟨Γ', f1, f2, f3⟩ := h.rel hm wk1 hq h1 h2 hn (by have := hv 0 k (by simp); simpa using this)
      have e := (t.dats (w' := w') (Γ' := Γ') (lo := w.heap.size) hd)
      refine ⟨Γ', fun j b hb => ?_, by rw [e.1]; exact f2, f3⟩
      cases j with
      | zero =>
        simp at hb; subst hb
        refine f1.to1 ?_
        cases h <;> first | exact mk_tup | simp
      | succ j =>
        exact e.2 (fun j => vs (j + 1)) (fun j r hr => by
          have := hv (j + 1) r (by simpa using hr)
          rw [f3]
          rwa [show i + (j + 1) = i + 1 + j by omega] at this) j b (by simpa using hb)

/-- All results. -/
theorem outs_rel {R : Type} {r : R} {rs : List RK} {d : D} {obs : List Ob} {K : A → List Ob → Option R} (h : outs P rs d obs K = some r) : ∃ a obs1, K a obs1 = some r ∧ Pre obs obs1 ∧
    ∀ {obsS : List Ob} {w w' : World} {Γ : Env} {cv : Nat → Prop}, Mem P w Γ cv obsS → Wk obs1 obsS → Quiet w w' → ∀ {Fz' : Nat → Prop}, (∀ b, Γ.Fz b → Fz' b) → (∀ b, Fz' b → Γ.Fz b ∨ (w.heap.size ≤ b ∧ b < w'.heap.size)) →
      (obs.length < obs1.length → Γ.β obs.length = none) → ∀ {v : Value}, ResAll P w' Fz' w.heap.size rs d v → ∃ Γ', VRel P w' Γ' a v ∧ Grow P Γ Γ' w w' cv obsS obs.length obs1.length ∧ Γ'.Fz = Fz' := by
  have multi : ∀ (hrs : ∀ k, rs ≠ [k]), (rs.filter isOwn).length ≤ 1 → (outE P rs (fun i => d.f i) 0 [] obs fun as obs => K (.tup as) obs) = some r → ∃ a obs1, K a obs1 = some r ∧ Pre obs obs1 ∧
      ∀ {obsS : List Ob} {w w' : World} {Γ : Env} {cv : Nat → Prop}, Mem P w Γ cv obsS → Wk obs1 obsS → Quiet w w' → ∀ {Fz' : Nat → Prop}, (∀ b, Γ.Fz b → Fz' b) → (∀ b, Fz' b → Γ.Fz b ∨ (w.heap.size ≤ b ∧ b < w'.heap.size)) →
        (obs.length < obs1.length → Γ.β obs.length = none) → ∀ {v : Value}, ResAll P w' Fz' w.heap.size rs d v → ∃ Γ', VRel P w' Γ' a v ∧ Grow P Γ Γ' w w' cv obsS obs.length obs1.length ∧ Γ'.Fz = Fz' := fun hrs hone h => by
    obtain ⟨as, obs1, h1, h2⟩ := outE_ok h
    refine ⟨.tup as, obs1, by simpa using h1, h2.wk, fun {obsS w w' Γ cv} hm wk hq {Fz'} g1 g2 hn {v} hv => ?_⟩
    have hv : ∃ vs : Array Value, v = .tuple vs ∧ vs.size = rs.length ∧ ∀ (i : Nat) r x, rs[i]? = some r → vs[i]? = some x → ResRel P w' Fz' w.heap.size r (d.f i) x := by
      unfold ResAll at hv
      split at hv
      · exact absurd rfl (hrs _)
      · exact hv
    obtain ⟨vs, rfl, e1, e2⟩ := hv
    obtain ⟨Γ', f1, f2, f3⟩ := h2.rel hone hm wk hq g1 g2 hn (vs := fun j => vs.getD j undef) (fun j k hk => by
      have hj : j < vs.size := by rw [e1]; exact (List.getElem?_eq_some_iff.1 hk).1
      have := e2 j k vs[j] hk (by simp [hj])
      rw [Nat.zero_add]
      simpa [hj] using this)
    refine ⟨Γ', ⟨vs, rfl, by rw [h2.len, e1], fun j a x ha hx => ?_⟩, f2, f3⟩
    have := f1 j a ha
    have hx' : vs.getD j undef = x := by simp [Array.getD_eq_getD_getElem?, hx]
    rwa [hx'] at this
  match rs, h, multi with
  | [k], h, _ =>
    simp only [outs] at h
    obtain ⟨as, obs1, h1, h2⟩ := outE_ok h
    cases h2 with
    | cons ho t =>
      cases t with
      | nil =>
        exact ⟨_, _, by simpa using h1, ho.wk, fun {obsS w w' Γ cv} hm wk hq {Fz'} g1 g2 hn {v} hv => ho.rel hm wk hq g1 g2 hn hv⟩
  | [], h, multi => exact multi (by simp) (by simp) (by simpa [outs] using h)
  | k :: k' :: rs, h, multi =>
    simp only [outs] at h
    split at h
    · rename_i hc; exact multi (by simp) hc h
    · cases h

end
end Go.Ev

namespace Go.Ev
open Go

/-- What an operation does in the machine: for calls, whatever comes behind. -/
def SDoes (P : Program) (lim : Option Nat) (may : Bool) (o : Oper) (st : St) (a : A) (obs1 : List Ob) : Prop :=
  Wk st.obs obs1 ∧ (may = false → Pre st.obs obs1) ∧ ∀ obsS cv Γ w act, Ctl P lim o st obs1 obsS cv Γ w act → ∀ (N : Act → World → Prop) (Q : Exit → Act → World → Prop),
    (∀ Γ' v w', VRel P w' Γ' a v → Grow P Γ Γ' w w' cv obsS st.obs.length obs1.length → N (act.put o.dst v) w') → o.wp P act w N Q
def SOutK {R : Type} (P : Program) (lim : Option Nat) (may : Bool) (o : Oper) (st : St) (K : A → List Ob → Option R) (r : R) : Prop :=
  ∃ a obs1, K a obs1 = some r ∧ SDoes P lim may o st a obs1

section
variable {P : Program} {lim : Option Nat} {o : Oper} {st : St} {R : Type} {K : A → List Ob → Option R} {r : R}

theorem PDoes.toS {a : A} {obs1 : List Ob} {may : Bool} (h : PDoes P lim o st a obs1) : SDoes P lim may o st a obs1 :=
  ⟨h.1.wk, fun _ => h.1, fun obsS cv Γ w act c N Q hN => by
    obtain ⟨Γ', v, w', h1, h2, h3⟩ := h.2 obsS cv Γ w act c
    unfold Oper.wp
    rw [h1]
    exact hN Γ' v w' h2 h3⟩
theorem POut.toS {may : Bool} (h : POut P lim o st K r) : SOutK P lim may o st K r := by
  obtain ⟨a, obs1, h1, h2⟩ := h
  exact ⟨a, obs1, h1, h2.toS⟩

/-! ### What is called -/
theorem run_enter (F : FnOk P) {w : World} {act : Act} {c : Call} (ho : o.op = .call c) {f : Operand} (hc : c.callee = .value f) {g : FuncId} {fv cv : Array Value} (hf : act.eval f = .func (.func g) fv cv)
    (hb : ∃ fn, P.funcs[g]? = some fn ∧ fn.body.isSome = true) : (execOp act.eval o).run P w = .ok (.enter g (fv ++ c.args.map act.eval ++ cv)) w := by
  obtain ⟨fn, h1, h2⟩ := hb
  have h3 := F.ok g fn h1
  have h4 : fn.body.isNone = false := by cases hbd : fn.body <;> simp_all
  simp only [execOp, ho, resolve, hc, hf, Deferred.ofValue, Sem.run_bind, Sem.run_pure, Result.andThen_ok, invoke, callFunc, run_program, h1, h3, h4, Bool.false_eq_true, if_false]
theorem call_ops {c : Call} (ho : o.op = .call c) : (∀ x ∈ c.args, x ∈ o.op.operands) ∧ (∀ f, c.callee = .value f → f ∈ o.op.operands) := by
  refine ⟨fun x hx => ?_, fun f hf => ?_⟩
  · simp only [ho, Op.operands, Call.operands]
    split <;> simp [hx]
  · simp [ho, Op.operands, Call.operands, hf]
theorem target_rel (F : FnOk P) {c : Call} (ho : o.op = .call c) {g : FuncId} {args : List A} (ht : target st c = some (g, args)) {w : World} {Γ : Env} {act : Act} (hops : ∀ x ∈ o.op.operands, VRel P w Γ (ev st x) (act.eval x))
    (hb : ∃ fn, P.funcs[g]? = some fn ∧ fn.body.isSome = true) : ∃ vals : Array Value, (execOp act.eval o).run P w = .ok (.enter g vals) w ∧ vals.size = args.length ∧ ∀ (i : Nat) a v, args[i]? = some a → vals[i]? = some v → VRel P w Γ a v := by
  unfold target at ht
  split at ht
  · rename_i f hc
    split at ht
    · rename_i g' a b hf
      cases ht
      have hfr := hops f ((call_ops ho).2 f hc)
      rw [hf] at hfr
      have hfr := hfr.one (by simp) rfl (by simp)
      generalize hve : act.eval f = ve at hfr
      cases hfr with
      | fn h1 h2 sa sc ha hcc =>
        rename_i fv cv
        refine ⟨_, run_enter F ho hc hve hb, by simp [h1, h2], fun i x v hx hv => ?_⟩
        have of : ∀ x v, CRel P w Γ x v.cells.toList → VShape x v → VRel P w Γ x v := fun x v h h' => .of1 (.inr ⟨h, h'⟩) (VRel.notup h)
        have hx' : (a ++ (c.args.toList.map (ev st) ++ b))[i]? = some x := by simpa using hx
        have hv' : (fv.toList ++ (c.args.toList.map act.eval ++ cv.toList))[i]? = some v := by
          have : (fv ++ c.args.map act.eval ++ cv).toList[i]? = some v := by rw [Array.getElem?_toList]; exact hv
          simpa using this
        by_cases hi : i < a.length
        · rw [List.getElem?_append_left hi] at hx'
          rw [List.getElem?_append_left (by simpa [← h1] using hi)] at hv'
          have hv'' : fv[i]? = some v := by simpa using hv'
          exact of x v (ha i x v hx' hv'') (sa i x v hx' hv'')
        · rw [List.getElem?_append_right (by omega)] at hx'
          rw [List.getElem?_append_right (by simp [← h1]; omega)] at hv'
          have e1 : i - fv.toList.length = i - a.length := by simp [h1]
          rw [e1] at hv'
          by_cases hi2 : i - a.length < c.args.size
          · rw [List.getElem?_append_left (by simpa using hi2)] at hx' hv'
            simp only [List.getElem?_map, Option.map_eq_some_iff] at hx' hv'
            obtain ⟨y, hy, rfl⟩ := hx'
            obtain ⟨z, hz, rfl⟩ := hv'
            rw [hy] at hz; cases hz
            exact hops y ((call_ops ho).1 y (Array.mem_toList_iff.1 (List.mem_of_getElem? hy)))
          · rw [List.getElem?_append_right (by simp; omega)] at hx' hv'
            have hv'' : cv[i - a.length - (c.args.toList.map (ev st)).length]? = some v := by simpa using hv'
            exact of x v (hcc _ x v hx' hv'') (sc _ x v hx' hv'')
    · cases ht
  · cases ht

/-! ### Arguments as data -/
theorem datArgs_rel (T : TabOk P) {w : World} {Γ : Env} {cv : Nat → Prop} {obs obsS : List Ob} (hm : Mem P w Γ cv obsS) (wk : Wk obs obsS) {Fz' : Nat → Prop} (hF : ∀ b, Γ.Fz b → Fz' b) :
    ∀ {ts : List TypeId} {as : List A} {ds : List D} {vs : List Value}, datArgs P obs ts as = some ds → vs.length = as.length → (∀ (i : Nat) a v, as[i]? = some a → vs[i]? = some v → VRel P w Γ a v) →
      ((∀ a ∈ as, a.still = true) ∨ ∀ o ob, obs[o]? = some ob → (∀ t a, ob ≠ .var t a) → cv o) → (∀ a ∈ as, ∀ d, dataOf obs 60 a = some d → ∀ o p b, reach obs 60 a o → Γ.β o = some p → p.block = some b → Fz' b) →
      ds.length = vs.length ∧ ts.length = vs.length ∧ ∀ (i : Nat) t d v, ts[i]? = some t → ds[i]? = some d → vs[i]? = some v → ArgRel P w Fz' t d v
  | [], [], ds, vs, h, hl, _, _, _ => by
    simp [datArgs] at h; subst h
    have : vs = [] := by simpa using hl
    subst this
    exact ⟨rfl, rfl, fun i t d v h => by simp at h⟩
  | [], a :: as, ds, vs, h, _, _, _, _ => by simp [datArgs] at h
  | t :: ts, [], ds, vs, h, _, _, _, _ => by simp [datArgs] at h
  | t :: ts, a :: as, ds, vs, h, hl, hv, hcv, hr => by
    cases vs with
    | nil => simp at hl
    | cons v vs =>
      simp only [datArgs] at h
      split at h
      · rename_i d ds' hc hd hds
        cases h
        simp only [Bool.and_eq_true] at hc
        obtain ⟨hf, hp⟩ := hc
        have hva := hv 0 a v (by simp) (by simp)
        have hj : a ≠ .junk := by intro e; rw [e] at hf; simp [fits] at hf
        have ht : ∀ vs, a ≠ .tup vs := by intro vs e; rw [e] at hf; simp [fits] at hf
        obtain ⟨hcr, hsh⟩ := hva.cells hj ht
        have hfit := fits_fit hm wk hf hcr
        have hD := dataOf_rel hm wk hF hcr hfit hd (hcv.imp (fun h => h a (by simp)) id) (fun o p b ho hp hb => hr a (by simp) d hd o p b ho hp hb)
        have hsh' : VShape (mk P t d) v := by
          obtain ⟨k1, e1, e2, _⟩ := fits_kind T hf hcr
          obtain ⟨k2, e3, e4, _⟩ := mk_kind T (d := d) hp
          rw [e1] at e3; cases e3
          have hs : (mk P t d).isS = a.isS := by
            cases h1 : a.isS <;> cases h2 : (mk P t d).isS <;> simp_all
          cases v <;> simp_all [VShape]
        obtain ⟨h1, h2, h3⟩ := datArgs_rel T hm wk hF hds (by simpa using hl) (fun i a v ha hv' => hv (i + 1) a v (by simpa using ha) (by simpa using hv')) (hcv.imp (fun h a ha => h a (by simp [ha])) id) (fun a ha => hr a (by simp [ha]))
        refine ⟨by simp [h1], by simp [h2], fun i t' d' v' h4 h5 h6 => ?_⟩
        cases i with
        | zero => simp at h4 h5 h6; subst h4; subst h5; subst h6; exact ⟨hD, hsh'⟩
        | succ i => exact h3 i t' d' v' (by simpa using h4) (by simpa using h5) (by simpa using h6)
      · cases h

theorem frzAll_wk : ∀ (as : List A) (obs : List Ob), Wk obs (frzAll obs as)
  | [], obs => Wk.refl _
  | a :: as, obs => ((frz_wk 60).1 obs a).trans (frzAll_wk as _)
theorem frzAll_reach {obs : List Ob} : ∀ (as : List A) (obs' : List Ob), Wk obs obs' → ∀ a ∈ as, ∀ d, dataOf obs 60 a = some d → ∀ o, reach obs 60 a o → Fzn (frzAll obs' as) o
  | [], _, _, a, h, _, _, _, _ => by simp at h
  | b :: as, obs', wk, a, h, d, hd, o, hr => by
    simp only [frzAll]
    rcases List.mem_cons.1 h with rfl | h
    · exact ((frz_reach 60).1 obs' _ d wk hd o hr).wk (frzAll_wk as _)
    · exact frzAll_reach as _ (wk.trans ((frz_wk 60).1 _ _)) a h d hd o hr

theorem scalar_rel {k : RK} (hk : k.scalar P = true) {w : World} {Fz Fz' : Nat → Prop} {lo : Nat} {d : D} {v : Value} (h : ResRel P w Fz lo k d v) : ResRel P w Fz' lo k d v := by
  cases k with
  | dat t =>
    obtain ⟨h1, h2⟩ := h
    refine ⟨?_, h2⟩
    simp only [RK.scalar, scalarT] at hk
    split at hk
    · rename_i k' ht
      have hu := (ty_int ht).2
      generalize v.cells.toList = cs at h1 ⊢
      cases h1 with
      | int h hn => exact .int h hn
      | bool h => rw [hu] at h; cases h
      | str h => rw [hu] at h; cases h
      | st h => rw [hu] at h; cases h
      | nil h => rw [hu] at h; cases h
      | slE h => rw [hu] at h; cases h
      | sl h => rw [hu] at h; cases h
    · rename_i ht
      have hu := (ty_bool ht).2
      generalize v.cells.toList = cs at h1 ⊢
      cases h1 with
      | bool h hn => exact .bool h hn
      | int h => rw [hu] at h; cases h
      | str h => rw [hu] at h; cases h
      | st h => rw [hu] at h; cases h
      | nil h => rw [hu] at h; cases h
      | slE h => rw [hu] at h; cases h
      | sl h => rw [hu] at h; cases h
    · rename_i ht
      have hu := (ty_str ht).2
      generalize v.cells.toList = cs at h1 ⊢
      cases h1 with
      | str h hn => exact .str h hn
      | int h => rw [hu] at h; cases h
      | bool h => rw [hu] at h; cases h
      | st h => rw [hu] at h; cases h
      | nil h => rw [hu] at h; cases h
      | slE h => rw [hu] at h; cases h
      | sl h => rw [hu] at h; cases h
    · cases hk
  | own e => simp [RK.scalar] at hk
  | ownN e => simp [RK.scalar] at hk
theorem scalars_rel {rs : List RK} (hk : rs.all (RK.scalar P) = true) {w : World} {Fz Fz' : Nat → Prop} {lo : Nat} {d : D} {v : Value} (h : ResAll P w Fz lo rs d v) : ResAll P w Fz' lo rs d v := by
  unfold ResAll at *
  split
  · rename_i k
    exact scalar_rel (by simpa using hk) h
  · rename_i hne
    split at h
    · exact absurd rfl (hne _)
    · obtain ⟨vs, h1, h2, h3⟩ := h
      exact ⟨vs, h1, h2, fun i k x hr hx => scalar_rel (List.all_eq_true.1 hk k (List.mem_of_getElem? hr)) (h3 i k x hr hx)⟩


theorem frzO_len (obs : List Ob) (o : Nat) : (frzO obs o).length = obs.length := by
  unfold frzO; split <;> simp
theorem frz_len : ∀ n, (∀ obs a, (frz n obs a).length = obs.length) ∧ (∀ obs l, (frzL n obs l).length = obs.length)
  | 0 => by
    refine ⟨fun obs a => ?_, fun obs l => by simp only [frzL]⟩
    cases a <;> simp only [frz] <;> exact frzO_len _ _
  | n + 1 => by
    obtain ⟨h1, h2⟩ := frz_len n
    refine ⟨fun obs a => ?_, fun obs l => ?_⟩
    · cases a <;> simp only [frz] <;> first | exact frzO_len _ _ | exact h2 _ _ | skip
      split
      · rw [h2, frzO_len]
      · exact frzO_len _ _
    · cases l with
      | nil => simp only [frzL]
      | cons a l => simp only [frzL]; rw [h2, h1]
theorem frzAll_len : ∀ (as : List A) (obs : List Ob), (frzAll obs as).length = obs.length
  | [], obs => rfl
  | a :: as, obs => by simp only [frzAll]; rw [frzAll_len as, (frz_len 60).1]

/-- A call of a summary that writes nothing. -/
theorem sumE_sound (T : TabOk P) (F : FnOk P) {s : Spec} (hC : Contract P s) {c : Call} (ho : o.op = .call c) {args : List A} (ht : target st c = some (s.f, args)) {may : Bool} {fl : Nat} (hwr : s.wr = none)
    (h : sumE P may fl s args st.obs K = some r) : SOutK P lim may o st K r := by
  have hrd : isRd o = true := by
    have hcv : ∃ f, c.callee = .value f := by
      unfold target at ht
      split at ht
      · rename_i f hf; exact ⟨f, hf⟩
      · cases ht
    obtain ⟨f, hf⟩ := hcv
    simp [isRd, ho, hf]
  have hneed : ∀ {cv : Nat → Prop}, Need lim st.obs cv → ∀ o ob, st.obs[o]? = some ob → (∀ t a, ob ≠ .var t a) → cv o := fun hn o ob hob hne => hn o ob hob (by
    cases lim with
    | none => trivial
    | some n => exact .inr hne)
  unfold sumE at h
  split at h
  · cases h
  · rename_i ds hds
    rw [hwr] at h
    simp only at h
    split at h
    · rename_i hsc
      obtain ⟨d, hd, h⟩ := obind_some h
      obtain ⟨a, obs1, h1, hwk, h2⟩ := outs_rel h
      refine ⟨a, obs1, h1, hwk.wk, fun _ => hwk, fun obsS cv Γ w act ctl N Q hN => ?_⟩
      obtain ⟨vals, hrun, hvs, hvr⟩ := target_rel F ho ht ctl.ops hC.body
      unfold Oper.wp
      rw [hrun, Oper.upon_enter]
      have hvr' : ∀ (i : Nat) a v, args[i]? = some a → vals.toList[i]? = some v → VRel P w Γ a v := fun i a v ha hv => hvr i a v ha (by simpa using hv)
      rw [Bool.or_eq_true] at hsc
      rcases hsc with hsc | hst
      · -- scalars
        obtain ⟨g1, g2, g3⟩ := datArgs_rel T ctl.mem ctl.wk0 (Fz' := fun b => b < w.heap.size) ctl.mem.fzlt hds (by simpa using hvs) hvr' (.inr (hneed (ctl.need hrd))) (fun a ha d hd o p b _ hp hb => by
          obtain ⟨_, _, _, h3, _⟩ := ctl.mem.ob o p hp
          exact h3.lt hb)
        refine (hC.call hwr _ w vals ds d (fun b hb => hb) ⟨by simpa using g1, by simpa using g2, fun i t d v h1 h2 h3 => g3 i t d v h1 h2 (by simpa using h3)⟩ hd).mono fun e w' he => ?_
        obtain ⟨v, rfl, hq, Fz', _, _, hres⟩ := he
        obtain ⟨Γ', f1, f2, _⟩ := h2 ctl.mem ctl.wk hq (Fz' := Γ.Fz) (fun _ h => h) (fun _ h => .inl h) (fun hlt => ctl.fresh _ (Nat.le_refl _) hlt) (scalars_rel hsc hres)
        exact hN Γ' v w' f1 f2
      · -- data that bear no pointer to what may be written
        have hst : ∀ a ∈ args, a.still = true := fun a ha => List.all_eq_true.1 hst a ha
        obtain ⟨g1, g2, g3⟩ := datArgs_rel T ctl.mem ctl.wk0 (Fz' := Γ.Fz) (fun _ h => h) hds (by simpa using hvs) hvr' (.inl hst) (fun a ha d hd o p b hr => absurd hr ((still_reach 60).1 a (hst a ha) o))
        refine (hC.call hwr _ w vals ds d ctl.mem.fzlt ⟨by simpa using g1, by simpa using g2, fun i t d v h1 h2 h3 => g3 i t d v h1 h2 (by simpa using h3)⟩ hd).mono fun e w' he => ?_
        obtain ⟨v, rfl, hq, Fz', q1, q2, hres⟩ := he
        obtain ⟨Γ', f1, f2, _⟩ := h2 ctl.mem ctl.wk hq q1 q2 (fun hlt => ctl.fresh _ (Nat.le_refl _) hlt) hres
        exact hN Γ' v w' f1 f2
    · obtain ⟨d, hd, h⟩ := obind_some h
      obtain ⟨a, obs1, h1, hwk, h2⟩ := outs_rel h
      have hwk0 := frzAll_wk args st.obs
      refine ⟨a, obs1, h1, hwk0.trans hwk.wk, fun h => (by cases h), fun obsS cv Γ w act ctl N Q hN => ?_⟩
      obtain ⟨vals, hrun, hvs, hvr⟩ := target_rel F ho ht ctl.ops hC.body
      unfold Oper.wp
      rw [hrun, Oper.upon_enter]
      have hg := Grow.frozen (w := w) (lo := st.obs.length) (hi := obs1.length) ctl.mem
      have hvr' : ∀ (i : Nat) a v, args[i]? = some a → vals.toList[i]? = some v → VRel P w (Γ.frozen obsS) a v := fun i a v ha hv => (hvr i a v ha (by simpa using hv)).ext (S := fun _ => True) (fun _ _ => trivial) hg.ext
      obtain ⟨g1, g2, g3⟩ := datArgs_rel T hg.mem ctl.wk0 (Fz' := (Γ.frozen obsS).Fz) (fun _ h => h) hds (by simpa using hvs) hvr' (.inr (hneed (ctl.need hrd))) (fun a ha d hd o p b hr hp hb =>
        .inr ⟨o, p, hp, hb, ((frzAll_reach args st.obs (Wk.refl _) a ha d hd o hr).wk (hwk.wk.trans ctl.wk))⟩)
      refine (hC.call hwr _ w vals ds d hg.mem.fzlt ⟨by simpa using g1, by simpa using g2, fun i t d v h1 h2 h3 => g3 i t d v h1 h2 (by simpa using h3)⟩ hd).mono fun e w' he => ?_
      obtain ⟨v, rfl, hq, Fz', q1, q2, hres⟩ := he
      have hl := frzAll_len args st.obs
      obtain ⟨Γ', f1, f2, _⟩ := h2 hg.mem ctl.wk hq q1 q2 (fun hlt => by rw [hl] at hlt ⊢; exact ctl.fresh _ (Nat.le_refl _) hlt) hres
      rw [hl] at f2
      exact hN Γ' v w' f1 (hg.trans f2)
    · cases h

end
end Go.Ev

namespace Go.Ev
open Go

theorem findSpec_mem : ∀ {l : List Spec} {f : FuncId} {s : Spec}, findSpec l f = some s → s ∈ l ∧ s.f = f
  | [], _, _, h => by simp [findSpec] at h
  | x :: l, f, s, h => by
    simp only [findSpec] at h
    split at h
    · rename_i hf; cases h; exact ⟨by simp, by simpa using hf⟩
    · obtain ⟨h1, h2⟩ := findSpec_mem h
      exact ⟨by simp [h1], h2⟩

section
variable {P : Program} {lim : Option Nat} {o : Oper} {st : St} {R : Type} {K : A → List Ob → Option R} {r : R}

/-- A slice's length. -/
theorem lenE_rel {x : A} {K : Nat → Option R} (h : lenE st.obs x K = some r) : ∃ n, K n = some r ∧ ∀ {w : World} {Γ : Env} {cv : Nat → Prop} {obsS : List Ob} {v : Value}, Mem P w Γ cv obsS → Wk st.obs obsS → VRel P w Γ x v → ∃ q c, v = .slice q n c := by
  unfold lenE at h
  split at h
  · refine ⟨_, h, fun hm wk hv => ?_⟩
    have := hv.one (by simp) rfl (by simp)
    cases this; exact ⟨_, _, rfl⟩
  · refine ⟨_, h, fun hm wk hv => ?_⟩
    have := hv.one (by simp) rfl (by simp)
    cases this with
    | snapNil hn he => subst he; exact ⟨_, _, rfl⟩
    | snapE hn he => subst he; exact ⟨_, _, rfl⟩
    | snap hn hf hl => subst hl; exact ⟨_, _, rfl⟩
  · split at h
    · rename_i hob
      refine ⟨_, h, fun hm wk hv => ?_⟩
      have := hv.one (by simp) rfl (by simp)
      cases this with
      | ownNil hp =>
        obtain ⟨_, _, he⟩ := (hm.at wk hp hob).1
        subst he; exact ⟨_, _, rfl⟩
      | own hp =>
        obtain ⟨_, hl, _⟩ := (hm.at wk hp hob).1
        subst hl; exact ⟨_, _, rfl⟩
    · rename_i hob
      refine ⟨_, h, fun hm wk hv => ?_⟩
      have := hv.one (by simp) rfl (by simp)
      cases this with
      | ownNil hp =>
        have := (hm.at wk hp hob).1
        simp [Shape] at this
      | own hp =>
        obtain ⟨_, hl, _⟩ := (hm.at wk hp hob).1
        subst hl; exact ⟨_, _, rfl⟩
    · cases h
  · refine ⟨_, h, fun hm wk hv => ?_⟩
    have := hv.one (by simp) rfl (by simp)
    cases this with
    | subNil hp => exact ⟨_, _, rfl⟩
    | sub hp => exact ⟨_, _, rfl⟩
  · cases h

theorem run_builtin {w : World} {act : Act} {c : Call} (ho : o.op = .call c) {b : Builtin} (hc : c.callee = .builtin b) : ∃ consts, (execOp act.eval o).run P w = (builtin b c.argTypes o.type consts (c.args.map act.eval)).run P w := by
  refine ⟨c.args.map fun | .const _ => true | _ => false, ?_⟩
  simp only [execOp, ho, resolve, hc, Sem.run_bind, Sem.run_pure, Result.andThen_ok, invoke]
  rfl

theorem args_one {c : Call} {x : A} (h : c.args.toList.map (ev st) = [x]) : ∃ y, c.args = #[y] ∧ ev st y = x := by
  generalize c.args = ar at h ⊢
  obtain ⟨l⟩ := ar
  match l, h with
  | [y], h => exact ⟨y, rfl, by simpa using h⟩
theorem args_two {c : Call} {x y : A} (h : c.args.toList.map (ev st) = [x, y]) : ∃ a b, c.args = #[a, b] ∧ ev st a = x ∧ ev st b = y := by
  generalize c.args = ar at h ⊢
  obtain ⟨l⟩ := ar
  match l, h with
  | [a, b], h => exact ⟨a, b, rfl, by simpa using h⟩

theorem builtin_sound {c : Call} (ho : o.op = .call c) {b : Builtin} (hc : c.callee = .builtin b) (h : pureBuiltin P b c.argTypes (c.args.toList.map (ev st)) st.obs K = some r) : POut P lim o st K r := by
  unfold pureBuiltin at h
  split at h
  · rename_i x hx
    obtain ⟨y, hy, rfl⟩ := args_one hx
    split at h
    · rename_i t ht
      have hrun : ∀ (w : World) (act : Act), (execOp act.eval o).run P w = ((Builtin.len_ c.argTypes o.type #[act.eval y]).run P w).andThen fun a w' => .ok (.value a) w' := fun w act => by
        obtain ⟨cs, h1⟩ := run_builtin (P := P) (w := w) (act := act) ho hc
        rw [h1]
        simp [builtin, hy]
      split at h
      · rename_i s hk hs
        refine ⟨_, _, h, .still fun obsS cv Γ w act q => ?_⟩
        have h1 := q.ops y ((call_ops ho).1 y (by simp [hy]))
        rw [hs] at h1
        obtain ⟨u, e1, e2⟩ := h1.str
        refine ⟨.int .i64 u.size, ?_, ?_⟩
        · rw [hrun]; simp [Builtin.len_, ht, run_underlying (ty_str hk).2, e1, goInt]
        · have : ilen (len s) = (u.size : Int) := by
            rw [e2]; show ((u.data.toList.length : Nat) : Int) = _
            simp only [Array.length_toList]; rfl
          rw [← this]; exact .mkInt
      · cases h
      · rename_i e hk _
        obtain ⟨n, hK, hn⟩ := lenE_rel (P := P) h
        refine ⟨_, _, hK, .still fun obsS cv Γ w act q => ?_⟩
        obtain ⟨p, cap, e1⟩ := hn q.mem q.wk0 (q.ops y ((call_ops ho).1 y (by simp [hy])))
        refine ⟨.int .i64 n, ?_, .mkInt⟩
        rw [hrun]; simp [Builtin.len_, ht, run_underlying (ty_slice hk).2, e1, goInt]
      · cases h
    · cases h
  · rename_i hx
    obtain ⟨y, hy, hye⟩ := args_one hx
    split at h
    · rename_i t ht
      split at h
      · rename_i e hk
        refine ⟨_, _, h, .still fun obsS cv Γ w act q => ?_⟩
        have h1 := q.ops y ((call_ops ho).1 y (by simp [hy]))
        rw [hye] at h1
        have h1 := h1.one (by simp) rfl (by simp)
        generalize hve : act.eval y = ve at h1
        cases h1
        obtain ⟨cs, hr⟩ := run_builtin (P := P) (w := w) (act := act) ho hc
        refine ⟨.int .i64 0, ?_, .mkInt⟩
        rw [hr]
        simp [builtin, hy, Builtin.cap_, ht, run_underlying (ty_slice hk).2, hve, goInt]
      · cases h
    · cases h
  · rename_i k x k' y hx
    obtain ⟨a, b, hab, ha, hb⟩ := args_two hx
    split at h
    · rename_i hk
      have hk : k = k' := by simpa using hk
      subst hk
      refine ⟨_, _, h, .still fun obsS cv Γ w act q => ?_⟩
      have h1 := q.ops a ((call_ops ho).1 a (by simp [hab]))
      have h2 := q.ops b ((call_ops ho).1 b (by simp [hab]))
      rw [ha] at h1; rw [hb] at h2
      obtain ⟨cs, hr⟩ := run_builtin (P := P) (w := w) (act := act) ho hc
      refine ⟨.int k (if y < x then y else x), ?_, ?_⟩
      · rw [hr]; simp [builtin, hab, Builtin.min_, h1.int, h2.int, Builtin.min2]
      · have : isel (ilt y x) y x = if y < x then y else x := by
          by_cases e : y < x <;> simp [isel, ilt, e]
        rw [this]; exact .mkInt
    · cases h
  · rename_i k x k' y hx
    obtain ⟨a, b, hab, ha, hb⟩ := args_two hx
    split at h
    · rename_i hk
      have hk : k = k' := by simpa using hk
      subst hk
      refine ⟨_, _, h, .still fun obsS cv Γ w act q => ?_⟩
      have h1 := q.ops a ((call_ops ho).1 a (by simp [hab]))
      have h2 := q.ops b ((call_ops ho).1 b (by simp [hab]))
      rw [ha] at h1; rw [hb] at h2
      obtain ⟨cs, hr⟩ := run_builtin (P := P) (w := w) (act := act) ho hc
      refine ⟨.int k (if x < y then y else x), ?_, ?_⟩
      · rw [hr]; simp [builtin, hab, Builtin.max_, h1.int, h2.int, Builtin.max2]
      · have : isel (ilt x y) y x = if x < y then y else x := by
          by_cases e : x < y <;> simp [isel, ilt, e]
        rw [this]; exact .mkInt
    · cases h
  · cases h

theorem assign_sound {x : Operand} (ho : o.op = .assign x) (h : assignE P o x st K = some r) : POut P lim o st K r := by
  have hrun : ∀ (w : World) (act : Act), (execOp act.eval o).run P w = .ok (.value (act.eval x)) w := fun w act => by simp [execOp, ho]
  have same : ∀ a, ev st x = a → K a st.obs = some r → POut P lim o st K r := fun a ha hK =>
    ⟨a, _, hK, .still fun obsS cv Γ w act q => ⟨act.eval x, hrun w act, ha ▸ q.ops x (by simp [ho, Op.operands])⟩⟩
  unfold assignE at h
  split at h
  · rename_i hx
    split at h
    · rename_i e hk
      split at h
      · refine ⟨_, _, h, Pre.append _ _, fun obsS cv Γ w act c => ?_⟩
        have h1 := c.ops x (by simp [ho, Op.operands])
        rw [hx] at h1
        have h1 := h1.one (by simp) rfl (by simp)
        generalize hve : act.eval x = ve at h1
        cases h1
        obtain ⟨rw', hob⟩ := c.wk.arr (o := st.obs.length) (by simp : (st.obs ++ [Ob.arr e [] true false true])[st.obs.length]? = some (.arr e [] true false true))
        refine ⟨Γ.put st.obs.length (.nil e), _, w, hrun w act, ?_, ?_⟩
        · rw [hve]; exact .mk1 (.ownNil (Env.put_at _ _ _)) rfl (by simp) rfl
        · have := Grow.nil c.mem st.obs.length (c.fresh _ (Nat.le_refl _) (by simp)) e false rw' hob
          simpa using this
      · exact same _ hx h
    · exact same _ hx h
  · exact same _ rfl h

/-- WHAT MAY STAND WHERE NOTHING IS WRITTEN. -/
theorem stillOp_sound (T : TabOk P) (F : FnOk P) {cf : Cfg} (hS : ∀ s ∈ cf.S, Contract P s) {may : Bool} (h : stillOp P cf may lim o st K = some r) : SOutK P lim may o st K r := by
  unfold stillOp at h
  split at h
  · rename_i c ho
    split at h
    · rename_i b hc
      exact (builtin_sound ho hc h).toS
    · split at h
      · rename_i f args ht
        split at h
        · rename_i s hs
          obtain ⟨h1, h2⟩ := findSpec_mem hs
          subst h2
          by_cases hwr : s.wr = none
          · have hm : (may && s.wr.isNone) = may := by rw [hwr]; cases may <;> rfl
            rw [hm] at h
            exact sumE_sound T F (hS s h1) ho ht hwr h
          · unfold sumE at h
            split at h
            · cases h
            · split at h
              · rename_i hn; exact absurd hn hwr
              · rename_i i hi
                simp [hi] at h
        · cases h
      · cases h
  · rename_i x ho
    exact (assign_sound ho h).toS
  · exact (pureOp_sound T h).toS

end
end Go.Ev

namespace Go.Ev
open Go

section
variable {P : Program}

/-- One block is written, of a thing that is there. -/
structure Wrote (w w' : World) (b : Nat) : Prop where
  os : w'.os = w.os
  tape : w'.tape = w.tape
  output : w'.output = w.output
  size : w'.heap.size = w.heap.size
  other : ∀ k, k ≠ b → w'.heap[k]? = w.heap[k]?
theorem Wrote.ext {w w' : World} {b : Nat} {Γ : Env} (h : Wrote w w' b) (hb : ¬ Γ.Fz b) : Ext (fun _ => True) w w' Γ Γ :=
  ⟨fun _ h => h, fun k hk => h.other k (by rintro rfl; exact hb hk), fun _ _ _ h => h⟩
theorem Wrote.step {w w' : World} {b : Nat} {Γ : Env} (h : Wrote w w' b) (hb : ¬ Γ.Fz b) {x : Nat} {p : Place} (hx : Γ.β x = some p) (hp : p.block = some b) (base : Nat) : Step base Γ Γ w w' where
  os := h.os
  tape := h.tape
  output := h.output
  size := by rw [h.size]; exact Nat.le_refl _
  fz := fun _ h => h
  fzs := (h.ext hb).fzs
  frame := fun k _ hk => h.other k (by rintro rfl; exact hk x p hx hp)
  fznew := fun k hk => .inl hk
  keep := fun _ _ _ h => h
  new := fun o q k ho hk => .inr ⟨o, q, ho, hk⟩
theorem Mem.write {w w' : World} {Γ : Env} {cv cv' : Nat → Prop} {obs : List Ob} (hm : Mem P w Γ cv obs) {x b : Nat} {p : Place} {ob : Ob} (hx : Γ.β x = some p) (hp : p.block = some b) (hw : Wrote w w' b) (hb : ¬ Γ.Fz b)
    (hs : Shape ob p) (hbk : Backed P w' p) (hc : cv' x → Content P w' Γ ob p) (hcv : ∀ o, o ≠ x → cv' o → cv o) : Mem P w' Γ cv' (obs.set x ob) := by
  have hlt := hm.lt hx
  refine ⟨fun o q hq => ?_, hm.inj, fun k hk => by rw [hw.size]; exact hm.fzlt k hk⟩
  by_cases e : o = x
  · subst e
    rw [hx] at hq; cases hq
    exact ⟨ob, List.getElem?_set_self hlt, hs, hbk, hc⟩
  · obtain ⟨ob', h1, h2, h3, h4⟩ := hm.ob o q hq
    have hbl : ∀ k, q.block = some k → w'.heap[k]? = w.heap[k]? := fun k hk => hw.other k (by rintro rfl; exact e (hm.inj o x q p k hq hx hk hp))
    exact ⟨ob', by rw [List.getElem?_set_ne (Ne.symm e)]; exact h1, h2, h3.same hbl, fun hc' => (h4 (hcv o e hc')).same hbl ⟨fun _ h => h, (hw.ext hb).fzs, fun _ _ _ h => h⟩⟩
/-- The same, where the list of things stands. -/
theorem Mem.written {w w' : World} {Γ : Env} {cv cv' : Nat → Prop} {obs : List Ob} (hm : Mem P w Γ cv obs) {x b : Nat} {p : Place} (hx : Γ.β x = some p) (hp : p.block = some b) (hw : Wrote w w' b) (hb : ¬ Γ.Fz b)
    (hbk : Backed P w' p) (hcv : ∀ o, cv' o → o ≠ x ∧ cv o) : Mem P w' Γ cv' obs := by
  refine ⟨fun o q hq => ?_, hm.inj, fun k hk => by rw [hw.size]; exact hm.fzlt k hk⟩
  by_cases e : o = x
  · subst e
    rw [hx] at hq; cases hq
    obtain ⟨ob', h1, h2, h3, h4⟩ := hm.ob o p hx
    exact ⟨ob', h1, h2, hbk, fun hc => absurd rfl (hcv o hc).1⟩
  · obtain ⟨ob', h1, h2, h3, h4⟩ := hm.ob o q hq
    have hbl : ∀ k, q.block = some k → w'.heap[k]? = w.heap[k]? := fun k hk => hw.other k (by rintro rfl; exact e (hm.inj o x q p k hq hx hk hp))
    exact ⟨ob', h1, h2, h3.same hbl, fun hc' => (h4 (hcv o hc').2).same hbl ⟨fun _ h => h, (hw.ext hb).fzs, fun _ _ _ h => h⟩⟩

/-- THE STORE. -/
theorem store_rel (T : TabOk P) {w : World} {Γ : Env} {cv : Nat → Prop} {obs : List Ob} {fl : Nat} (hm : Mem P w Γ cv obs) (hf : Free fl Γ obs) {t : TypeId} {addr v : A} {x : Nat} {ob : Ob} (h : storeOb P t fl obs addr v = some (x, ob))
    (hc : ∀ p, Γ.β x = some p → cv x) {va vv : Value} (ha : VRel P w Γ addr va) (hv : VRel P w Γ v vv) :
    ∃ p b w' ob0, Γ.β x = some p ∧ p.block = some b ∧ (Instr.storeAt t va vv).run P w = .ok () w' ∧ Wrote w w' b ∧ ¬ Γ.Fz b ∧ Backed P w' p ∧ Shape ob p ∧ Content P w' Γ ob p ∧ obs[x]? = some ob0 ∧ ob0.rw = true ∧ ob.rw = true := by
  unfold storeOb at h
  split at h
  · cases h
  · rename_i hfit
    have hfit : fits P obs t v = true := by simpa using hfit
    have hj : v ≠ .junk := by intro e; rw [e] at hfit; simp [fits] at hfit
    have ht : ∀ vs, v ≠ .tup vs := by intro vs e; rw [e] at hfit; simp [fits] at hfit
    obtain ⟨hvr, _⟩ := hv.cells hj ht
    obtain ⟨d, hu, hk, hl, _⟩ := fits_kind T hfit hvr
    have hFit := fits_fit hm (Wk.refl _) hfit hvr
    have hl' : vv.cells.size = P.cellsOf t := by simpa using hl
    have hinfo := info_of_underlying hu
    split at h
    · rename_i o path
      split at h
      · rename_i t0 a hob
        split at h
        · rename_i hc0
          simp only [Bool.and_eq_true, decide_eq_true_eq, beq_iff_eq] at hc0
          obtain ⟨hfl, hty⟩ := hc0
          split at h
          · rename_i a' hset
            cases h
            have ha1 := ha.one (by simp) rfl (by simp)
            cases ha1 with
            | ref hp hoff =>
              rename_i b t' u off
              obtain ⟨hs, ⟨c, hcell, hsz⟩, hct⟩ := hm.at (Wk.refl _) hp hob
              have hs : t0 = t' := hs
              subst hs
              obtain ⟨o2, ho2⟩ := typeAt_off hty
              rw [hoff] at ho2; cases ho2
              obtain ⟨hfa, hcr⟩ := hct (hc _ hp)
              have hcr := hcr c _ _ hcell
              have hle := offAt_le T hoff
              have hnf : ¬ Γ.Fz b := hf x _ b _ hfl hp rfl hob rfl
              have hrun := run_store' (P := P) (w := w) (t := t) (v := vv) (b := b) (o := off) hcell hinfo hl (by omega) hvr.oneC
              obtain ⟨c', g1, g2⟩ := setCells_heap b vv.cells.toList off w c _ hcell (by omega)
              obtain ⟨s1, s2, s3, s4⟩ := setCells_os b vv.cells.toList off w
              have hW : Wrote w (w.setCells b off vv.cells.toList) b := ⟨s1, s2, s3, s4, fun k hk => setCells_other b _ _ _ k hk⟩
              obtain ⟨r1, r2⟩ := setA_rel T hcr hfa (by simpa using hsz) hset hoff hvr hl hFit
              have hsz' : c'.size = c.size := by rw [← Array.length_toList, g2, ow_length (by simp; omega)]; simp
              refine ⟨_, b, _, _, hp, rfl, hrun, hW, hnf, ⟨c', g1, by omega⟩, rfl, ⟨r2, fun c2 ty fz h2 => ?_⟩, hob, rfl, rfl⟩
              rw [g1] at h2; cases h2
              rw [g2]
              exact r1.ext (fun _ _ => trivial) (hW.ext hnf)
          · cases h
        · cases h
      · cases h
    · rename_i o i path
      split at h
      · rename_i e es nilable f hob
        split at h
        · rename_i hc0
          simp only [Bool.and_eq_true, decide_eq_true_eq, beq_iff_eq] at hc0
          obtain ⟨⟨⟨hfl, hty⟩, hst⟩, hpl⟩ := hc0
          split at h
          · rename_i dx hdx
            split at h
            · rename_i d' hset
              cases h
              have ha1 := ha.one (by simp) rfl (by simp)
              cases ha1 with
              | eref hp hi hoff =>
                rename_i b len size e' full u off
                obtain ⟨hs, ⟨c, hcell, hsz, hcl⟩, hct⟩ := hm.at (Wk.refl _) hp hob
                obtain ⟨rfl, hlen, hnl, hfu⟩ := hs
                obtain ⟨o2, ho2⟩ := typeAt_off hty
                rw [hoff] at ho2; cases ho2
                have hcr := hct (hc _ hp) c _ _ hcell
                have hle := offAt_le T hoff
                have hfitc : (i + 1) * P.cellsOf e ≤ len * P.cellsOf e := Nat.mul_le_mul_right _ hi
                rw [Nat.add_mul, Nat.one_mul] at hfitc
                have hnf : ¬ Γ.Fz b := hf x _ b _ hfl hp rfl hob rfl
                have hD := dataOf_rel hm (Wk.refl _) (Fz' := Γ.Fz) (fun _ h => h) hvr hFit hdx (.inl hst) (fun o p b ho => absurd ho ((still_reach 60).1 _ hst o))
                have hrun := run_store' (P := P) (w := w) (t := t) (v := vv) (b := b) (o := i * P.cellsOf e + off) hcell hinfo hl (by omega) hvr.oneC
                obtain ⟨c', g1, g2⟩ := setCells_heap b vv.cells.toList (i * P.cellsOf e + off) w c _ hcell (by omega)
                obtain ⟨s1, s2, s3, s4⟩ := setCells_os b vv.cells.toList (i * P.cellsOf e + off) w
                have hW : Wrote w (w.setCells b (i * P.cellsOf e + off) vv.cells.toList) b := ⟨s1, s2, s3, s4, fun k hk => setCells_other b _ _ _ k hk⟩
                have hei := hcr i (at_ es i) (by unfold at_; rw [List.getD_eq_getElem?_getD, List.getElem?_eq_getElem (by omega)]; rfl)
                have hnew := setD_rel T hei (cellsIn_length (by omega)) hset hoff hD hl
                have hsz' : c'.size = c.size := by rw [← Array.length_toList, g2, ow_length (by simp; omega)]; simp
                refine ⟨_, b, _, _, hp, rfl, hrun, hW, hnf, ⟨c', g1, by omega, by omega⟩, ⟨rfl, by simp [put, hlen], hnl, hfu⟩, ?_, hob, rfl, rfl⟩
                intro c2 ty fz h2 j y hy
                rw [g1] at h2; cases h2
                unfold cellsIn
                rw [g2]
                unfold put at hy
                rw [List.getElem?_set] at hy
                by_cases hij : i = j
                · subst hij
                  rw [if_pos rfl] at hy
                  have : d' = y := by
                    rw [if_pos (by omega)] at hy
                    exact Option.some.inj hy
                  subst this
                  rw [ow_in (by simp; omega) (by omega)]
                  exact hnew.mono (fun _ h => h) (hW.ext hnf).fzs
                · rw [if_neg hij] at hy
                  rw [ow_apart (by simp; omega)]
                  · exact (hcr j y hy).mono (fun _ h => h) (hW.ext hnf).fzs
                  · rcases Nat.lt_or_gt_of_ne hij with hlt | hlt
                    · have : (i + 1) * P.cellsOf e ≤ j * P.cellsOf e := Nat.mul_le_mul_right _ hlt
                      rw [Nat.add_mul, Nat.one_mul] at this
                      omega
                    · have : (j + 1) * P.cellsOf e ≤ i * P.cellsOf e := Nat.mul_le_mul_right _ hlt
                      rw [Nat.add_mul, Nat.one_mul] at this
                      omega
            · cases h
          · cases h
        · cases h
      · cases h
    · cases h

end
end Go.Ev
