/- The evaluator E: guards. The evaluator E: regions in order in which nothing is written. The evaluator E: regions that come to one truth. The evaluator E: guards once more; the trace of a region. The evaluator E: the trace of a region in open order. The evaluator E: what a chain of appends has made so far, known to nobody else. -/
import Derived.Test.YtakjjijmcnhpoaaGreatEvG
import Derived.Tactics
namespace Go.Ev
open Go

section
variable {P : Program} {R : Type} {r : R}

theorem set_same {st : St} {d : Tmp} {a : A} (h : st.tmps[d]? = some a) : St.set st (some d) a = st := by
  unfold St.set
  have : st.tmps.set d a = st.tmps := by
    apply List.ext_getElem?
    intro i
    rw [List.getElem?_set]
    split
    · rename_i hi
      subst hi
      split
      · exact h.symm
      · rename_i hlt
        rw [List.getElem?_eq_none (by omega)]
    · rfl
  simp only [this]
/-- A guard, as E reckons it, and as the machine does. -/
theorem guardE_ok {ops : Array Oper} {o : Oper} {st : St} {yes no : St → Option R} (h : guardE ops o st yes no = some r) {Γ : Env} {w : World} {act : Act}
    (ht : ∀ (j : Nat) b d, o.guard = some (j, b) → (ops[j]?).bind (·.dst) = some d → VRel P w Γ (st.tmps.getD d .junk) (act.tmps.getD d undef)) (hsz : st.tmps.length = act.tmps.size) :
    (Region.wanted o (yielded ops act.tmps) = true ∧ yes st = some r) ∨ (Region.wanted o (yielded ops act.tmps) = false ∧ no st = some r) := by
  unfold guardE at h
  unfold Region.wanted
  split at h
  · rename_i hg
    rw [hg]
    exact .inl ⟨rfl, h⟩
  · rename_i j want hg
    rw [hg]
    split at h
    · cases h
    · rename_i d hd
      have hrel := ht j want d hg hd
      split at h
      · rename_i b hb
        have hb' : st.tmps.getD d .junk = .bool b := by rw [List.getD_eq_getElem?_getD, hb]; rfl
        rw [hb'] at hrel
        have hlt : d < act.tmps.size := by rw [← hsz]; exact (List.getElem?_eq_some_iff.1 hb).1
        have hm : act.tmps[d]? = some (.bool b) := by
          have := hrel.bool
          rw [Array.getD_eq_getD_getElem?, Array.getElem?_eq_getElem hlt] at this
          rw [Array.getElem?_eq_getElem hlt]
          simpa using this
        have hy : yielded ops act.tmps j = some b := by unfold yielded; rw [hd]; simp [hm]
        have hset : ∀ b', b = b' → St.set st (some d) (.bool b') = st := fun b' e => by rw [← e]; exact set_same hb
        show ((yielded ops act.tmps j == some want) = true ∧ _) ∨ _
        rw [hy]
        cases want with
        | true =>
          rcases cnd_some h with ⟨hbb, h⟩ | ⟨hbb, h⟩
          · rw [hset true hbb] at h
            exact .inl ⟨by rw [hbb]; rfl, h⟩
          · rw [hset false hbb] at h
            refine .inr ⟨?_, h⟩
            show (yielded ops act.tmps j == some true) = false
            rw [hy, hbb]; rfl
        | false =>
          rcases cnd_some h with ⟨hbb, h⟩ | ⟨hbb, h⟩
          · rw [hset true hbb] at h
            refine .inr ⟨?_, h⟩
            show (yielded ops act.tmps j == some false) = false
            rw [hy, hbb]; rfl
          · rw [hset false hbb] at h
            exact .inl ⟨by rw [hbb]; rfl, h⟩
      · rename_i hb
        have hb' : st.tmps.getD d .junk = .tup [] := by rw [List.getD_eq_getElem?_getD, hb]; rfl
        rw [hb'] at hrel
        obtain ⟨vs, h1, _, _⟩ := hrel
        have hlt : d < act.tmps.size := by rw [← hsz]; exact (List.getElem?_eq_some_iff.1 hb).1
        have hm : act.tmps[d]? = some (.tuple vs) := by
          rw [Array.getD_eq_getD_getElem?, Array.getElem?_eq_getElem hlt] at h1
          rw [Array.getElem?_eq_getElem hlt]
          simpa using h1
        have hy : yielded ops act.tmps j = none := by unfold yielded; rw [hd]; simp [hm]
        refine .inr ⟨?_, h⟩
        show (yielded ops act.tmps j == some want) = false
        rw [hy]; rfl
      · cases h

theorem VRel.undef {w : World} {Γ : Env} : VRel P w Γ (.tup []) undef := ⟨#[], rfl, rfl, fun i a x h => by simp at h⟩

end
end Go.Ev

namespace Go.Ev
open Go

section
variable {P : Program} {R : Type} {r : R}

theorem Rel.skip {fl : Nat} {st : St} {Γ : Env} {w : World} {act : Act} (h : Rel P fl st Γ w act) (dst : Option Tmp) : Rel P fl (st.set dst (.tup [])) Γ w (act.put dst undef) :=
  h.set (obs1 := st.obs) ⟨fun _ h => h, fun _ _ => rfl, fun _ _ _ h => h⟩ h.mem h.free dst VRel.undef
theorem set_obs (st : St) (dst : Option Tmp) (a : A) : (st.set dst a).obs = st.obs := by cases dst <;> rfl
theorem set_tmps {st : St} {dst : Option Tmp} {a : A} {t : Tmp} (h : dst ≠ some t) : (st.set dst a).tmps.getD t .junk = st.tmps.getD t .junk := by
  cases dst with
  | none => rfl
  | some d =>
    show (st.tmps.set d a).getD t .junk = _
    rw [set_getD, if_neg (by rintro ⟨rfl, _⟩; exact h rfl)]
theorem put_tmps {act : Act} {dst : Option Tmp} {v : Value} {t : Tmp} (h : dst ≠ some t) : (act.put dst v).tmps.getD t undef = act.tmps.getD t undef := by
  cases dst with
  | none => rfl
  | some d => rw [put_getD, if_neg (by rintro ⟨rfl, _⟩; exact h rfl)]

/-- Operations that write nothing, in order. -/
theorem still_seq (T : TabOk P) (F : FnOk P) {cf : Cfg} (hS : ∀ s ∈ cf.S, Contract P s) {may : Bool} {ops : Array Oper} {K : St → Option R} {fl : Nat} {Q : Exit → Act → World → Prop} : ∀ (l : List Oper) {st : St}, (∀ o ∈ l, isStill o = true) → stillE P cf may none ops l st K = some r →
    ∀ {Γ : Env} {w : World} {act : Act}, Rel P fl st Γ w act →
    (∀ st' Γ' w' act', K st' = some r → Rel P fl st' Γ' w' act' → (may = false → Pre st.obs st'.obs) → (∀ base, Step base Γ Γ' w w') → (∀ b, b < w.heap.size → w'.heap[b]? = w.heap[b]?) → (∀ t, (∀ o ∈ l, o.dst ≠ some t) → st'.tmps.getD t .junk = st.tmps.getD t .junk ∧ act'.tmps.getD t undef = act.tmps.getD t undef) → act'.tmps.size = act.tmps.size → Q .normal act' w') →
    wpList P ops Q l act w
  | [], st, _, h, Γ, w, act, hr, hQ => hQ st Γ w act h hr (fun _ => Pre.refl _) (fun _ => Step.refl _ _ _) (fun _ _ => rfl) (fun _ _ => ⟨rfl, rfl⟩) rfl
  | o :: l, st, hst, h, Γ, w, act, hr, hQ => by
    have ho := hst o (by simp)
    have h' : guardE ops o st (fun st => stillOp P cf may none o st fun a obs => stillE P cf may none ops l (St.set { st with obs := obs } o.dst a) K) (fun st => stillE P cf may none ops l (st.set o.dst (.tup [])) K) = some r := by
      unfold stillE at h
      split at h
      · rename_i hop; simp [isStill, hop] at ho
      · have e : (if (may && (none : Option Nat).isSome) = true then appOf o else none) = none := by simp
        rw [e] at h
        exact h
    simp only [wpList]
    rcases guardE_ok (P := P) (Γ := Γ) (w := w) (act := act) h' (fun j b d _ _ => hr.tmps d) hr.size with ⟨hw, hy⟩ | ⟨hw, hn⟩
    · rw [if_pos hw]
      refine .inl ((stillOp_sound (P := P) T F hS hy).seq hr fun a obs1 Γ' w' act' hK hwk hpre hr' hstep hold hact => ?_)
      refine still_seq T F hS l (fun o ho => hst o (by simp [ho])) hK hr' fun st2 Γ2 w2 act2 hK2 hr2 hp2 hs2 ho2 ht2 hz2 => ?_
      obtain ⟨v, rfl⟩ := hact
      refine hQ st2 Γ2 w2 act2 hK2 hr2 (fun hm => (hpre hm).trans (by have := hp2 hm; rwa [set_obs] at this)) (fun base => (hstep base).trans (hs2 base)) (fun b hb => (ho2 b (Nat.lt_of_lt_of_le hb (hstep 0).size)).trans (hold b hb)) (fun t ht => ?_) (hz2.trans (by cases o.dst <;> simp [Act.put]))
      obtain ⟨e1, e2⟩ := ht2 t fun o ho => ht o (by simp [ho])
      have hne := ht o (by simp)
      exact ⟨e1.trans (set_tmps (st := { st with obs := obs1 }) hne), e2.trans (put_tmps hne)⟩
    · rw [if_neg (by rw [hw]; simp)]
      refine still_seq T F hS l (fun o ho => hst o (by simp [ho])) hn (hr.skip o.dst) fun st2 Γ2 w2 act2 hK2 hr2 hp2 hs2 ho2 ht2 hz2 => ?_
      refine hQ st2 Γ2 w2 act2 hK2 hr2 (fun hm => by have := hp2 hm; rwa [set_obs] at this) hs2 ho2 (fun t ht => ?_) (hz2.trans (by cases o.dst <;> simp [Act.put]))
      obtain ⟨e1, e2⟩ := ht2 t fun o ho => ht o (by simp [ho])
      have hne := ht o (by simp)
      exact ⟨e1.trans (set_tmps hne), e2.trans (put_tmps hne)⟩

end
end Go.Ev

namespace Go.Ev
open Go

section
variable {P : Program} {R : Type} {r : R}

theorem forget_obs : ∀ (l : List Oper) (st : St), (forget l st).obs = st.obs
  | [], _ => rfl
  | o :: l, st => (forget_obs l _).trans (set_obs st o.dst .junk)
theorem forget_len : ∀ (l : List Oper) (st : St), (forget l st).tmps.length = st.tmps.length
  | [], _ => rfl
  | o :: l, st => (forget_len l _).trans (by cases o.dst <;> simp [St.set])
theorem forget_tmps : ∀ (l : List Oper) (st : St) (t : Tmp), (forget l st).tmps.getD t .junk = .junk ∨ ((∀ o ∈ l, o.dst ≠ some t) ∧ (forget l st).tmps.getD t .junk = st.tmps.getD t .junk)
  | [], st, t => .inr ⟨fun o h => by simp at h, rfl⟩
  | o :: l, st, t => by
    simp only [forget]
    rcases forget_tmps l (st.set o.dst .junk) t with h | ⟨h1, h2⟩
    · exact .inl h
    · by_cases e : o.dst = some t
      · left
        rw [h2, e]
        show (st.tmps.set t .junk).getD t .junk = .junk
        rw [set_getD]
        split
        · rfl
        · rename_i hn
          have : ¬ t < st.tmps.length := fun h => hn ⟨rfl, h⟩
          rw [List.getD_eq_getElem?_getD, List.getElem?_eq_none (by omega)]; rfl
      · refine .inr ⟨fun o' ho' => ?_, h2.trans (set_tmps e)⟩
        rcases List.mem_cons.1 ho' with rfl | ho'
        · exact e
        · exact h1 o' ho'

/-- Of a region in which nothing is written one truth is kept. -/
theorem join_rel {fl : Nat} {st st' : St} {Γ Γ' : Env} {w w' : World} {act act' : Act} (h : Rel P fl st Γ w act) (h' : Rel P fl st' Γ' w' act') (hpre : Pre st.obs st'.obs) (hstep : ∀ base, Step base Γ Γ' w w') (hold : ∀ b, b < w.heap.size → w'.heap[b]? = w.heap[b]?)
    (l : List Oper) (htm : ∀ t, (∀ o ∈ l, o.dst ≠ some t) → act'.tmps.getD t undef = act.tmps.getD t undef) (hsz : act'.tmps.size = act.tmps.size) {d : Tmp} {b : Bool} (hb : truthAt st' d = some b) :
    Rel P fl (St.set (forget l st) (some d) (.bool b)) ⟨Γ.β, Γ'.Fz⟩ w' act' ∧ ∀ base, Step base Γ ⟨Γ.β, Γ'.Fz⟩ w w' := by
  have hS := hstep 0
  have hext : Ext (fun _ => True) w w' Γ ⟨Γ.β, Γ'.Fz⟩ := ⟨hS.fz, hS.fzs, fun _ _ _ h => h⟩
  have hlt : ∀ o p bl, Γ.β o = some p → p.block = some bl → bl < w.heap.size := fun o p bl hp hbl => by
    obtain ⟨_, _, _, h3, _⟩ := h.mem.ob o p hp
    exact h3.lt hbl
  have hkeep : ∀ o p, Γ.β o = some p → Γ'.β o = some p := fun o p hp => (hstep (o + 1)).keep o p (by omega) hp
  refine ⟨⟨⟨fun o p hp => ?_, h.mem.inj, h'.mem.fzlt⟩, fun o p bl ob ho hp hbl hob hrw => ?_, fun t => ?_, ?_, h'.ndef⟩, fun base => ⟨hS.os, hS.tape, hS.output, hS.size, hS.fz, hS.fzs, fun k hk _ => hold k hk, hS.fznew, fun _ _ _ h => h, fun o p bl hp hbl => .inr ⟨o, p, hp, hbl⟩⟩⟩
  · obtain ⟨ob, h1, h2, h3, h4⟩ := h.mem.ob o p hp
    have hbl : ∀ bl, p.block = some bl → w'.heap[bl]? = w.heap[bl]? := fun bl hb => hold bl (h3.lt hb)
    exact ⟨ob, by rw [set_obs, forget_obs]; exact h1, h2, h3.same hbl, fun hc => (h4 hc).same hbl ⟨hS.fz, hS.fzs, fun _ _ _ h => h⟩⟩
  · rw [set_obs, forget_obs] at hob
    obtain ⟨ex, he⟩ := hpre
    exact h'.free o p bl ob ho (hkeep o p hp) hbl (by rw [he, List.getElem?_append_left (List.getElem?_eq_some_iff.1 hob).1]; exact hob) hrw
  · show VRel P w' _ (((forget l st).tmps.set d (.bool b)).getD t .junk) (act'.tmps.getD t undef)
    rw [set_getD]
    split
    · rename_i hd
      obtain ⟨rfl, _⟩ := hd
      have hv := h'.tmps d
      unfold truthAt at hb
      split at hb
      · rename_i b' hb'
        cases hb
        rw [hb'] at hv
        rw [hv.bool]
        exact .mkBool
      · cases hb
    · rcases forget_tmps l st t with e | ⟨e1, e2⟩
      · rw [e]; exact .junk
      · rw [e2, htm t e1]
        exact (h.tmps t).ext (fun _ _ => trivial) hext
  · show ((forget l st).tmps.set d (.bool b)).length = act'.tmps.size
    rw [List.length_set, forget_len, hsz]; exact h.size

end
end Go.Ev

namespace Go.Ev
open Go

/-- How a guard comes out. -/
def GuardIs (ops : Array Oper) (o : Oper) (st : St) (y : Bool) : Prop :=
  match o.guard with
  | none => y = true
  | some (j, want) => ∃ d, (ops[j]?).bind (·.dst) = some d ∧ ((∃ b, st.tmps[d]? = some (.bool b) ∧ y = (b == want)) ∨ (st.tmps[d]? = some (.tup []) ∧ y = false))

section
variable {P : Program} {R : Type} {r : R}

theorem guardE_split {ops : Array Oper} {o : Oper} {st : St} {yes no : St → Option R} (h : guardE ops o st yes no = some r) : (GuardIs ops o st true ∧ yes st = some r) ∨ (GuardIs ops o st false ∧ no st = some r) := by
  unfold guardE at h
  unfold GuardIs
  split at h
  · rename_i hg; rw [hg]; exact .inl ⟨rfl, h⟩
  · rename_i j want hg
    rw [hg]
    split at h
    · cases h
    · rename_i d hd
      split at h
      · rename_i b hb
        have hset : ∀ b', b = b' → St.set st (some d) (.bool b') = st := fun b' e => by rw [← e]; exact set_same hb
        cases want with
        | true =>
          rcases cnd_some h with ⟨hbb, h⟩ | ⟨hbb, h⟩
          · rw [hset true hbb] at h
            exact .inl ⟨⟨d, hd, .inl ⟨b, hb, by rw [hbb]; rfl⟩⟩, h⟩
          · rw [hset false hbb] at h
            exact .inr ⟨⟨d, hd, .inl ⟨b, hb, by rw [hbb]; rfl⟩⟩, h⟩
        | false =>
          rcases cnd_some h with ⟨hbb, h⟩ | ⟨hbb, h⟩
          · rw [hset true hbb] at h
            exact .inr ⟨⟨d, hd, .inl ⟨b, hb, by rw [hbb]; rfl⟩⟩, h⟩
          · rw [hset false hbb] at h
            exact .inl ⟨⟨d, hd, .inl ⟨b, hb, by rw [hbb]; rfl⟩⟩, h⟩
      · rename_i hb
        exact .inr ⟨⟨d, hd, .inr ⟨hb, rfl⟩⟩, h⟩
      · cases h
theorem GuardIs.wanted {ops : Array Oper} {o : Oper} {st : St} {y : Bool} (h : GuardIs ops o st y) {Γ : Env} {w : World} {act : Act}
    (ht : ∀ (j : Nat) b d, o.guard = some (j, b) → (ops[j]?).bind (·.dst) = some d → VRel P w Γ (st.tmps.getD d .junk) (act.tmps.getD d undef)) (hsz : st.tmps.length = act.tmps.size) : Region.wanted o (yielded ops act.tmps) = y := by
  unfold GuardIs at h
  unfold Region.wanted
  split at h
  · rename_i hg; rw [hg]; exact h.symm
  · rename_i j want hg
    rw [hg]
    obtain ⟨d, hd, h⟩ := h
    have hrel := ht j want d hg hd
    show (yielded ops act.tmps j == some want) = y
    rcases h with ⟨b, hb, rfl⟩ | ⟨hb, rfl⟩
    · have hb' : st.tmps.getD d .junk = .bool b := by rw [List.getD_eq_getElem?_getD, hb]; rfl
      rw [hb'] at hrel
      have hlt : d < act.tmps.size := by rw [← hsz]; exact (List.getElem?_eq_some_iff.1 hb).1
      have hm : act.tmps[d]? = some (.bool b) := by
        have := hrel.bool
        rw [Array.getD_eq_getD_getElem?, Array.getElem?_eq_getElem hlt] at this
        rw [Array.getElem?_eq_getElem hlt]
        simpa using this
      have hy : yielded ops act.tmps j = some b := by unfold yielded; rw [hd]; simp [hm]
      rw [hy]; rfl
    · have hb' : st.tmps.getD d .junk = .tup [] := by rw [List.getD_eq_getElem?_getD, hb]; rfl
      rw [hb'] at hrel
      obtain ⟨vs, h1, _, _⟩ := hrel
      have hlt : d < act.tmps.size := by rw [← hsz]; exact (List.getElem?_eq_some_iff.1 hb).1
      have hm : act.tmps[d]? = some (.tuple vs) := by
        rw [Array.getD_eq_getD_getElem?, Array.getElem?_eq_getElem hlt] at h1
        rw [Array.getElem?_eq_getElem hlt]
        simpa using h1
      have hy : yielded ops act.tmps j = none := by unfold yielded; rw [hd]; simp [hm]
      rw [hy]; rfl

end
end Go.Ev

namespace Go.Ev
open Go

def isSto (o : Oper) : Bool := match o.op with | .store _ _ _ => true | _ => false
/-- An append of a chain: what E makes of it. -/
structure Chn (P : Program) (ops : Array Oper) (o : Oper) (st st' : St) (t : TypeId) (x : Tmp) (y : Operand) (e : TypeId) (d : Tmp) (ys : List D) : Prop where
  app : appOf o = some (t, x, y)
  ty : ty P t = .slice e
  pos : P.cellsOf e ≠ 0
  plain : plainT P 20 e = true
  dst : o.dst = some d
  ne : x ≠ d
  ney : y ≠ .tmp d
  lt : d < st.tmps.length
  src : srcE st.obs e (ev st y) = some ys
  st : (litE st.obs e (st.tmps.getD x .junk) = true ∧ room (len ys) (P.bytesOf e) = true ∧ st' = st.set (some d) (if innerT ops d then .junk else .snap e false ys false)) ∨
    (litE st.obs e (st.tmps.getD x .junk) = false ∧ innerT ops d = false ∧ ∃ p x' y' xs, opOf ops x = some p ∧ appOf p = some (t, x', y') ∧ srcE st.obs e (ev st y') = some xs ∧
      room (nadd (len xs) (len ys)) (P.bytesOf e) = true ∧ st' = st.set (some d) (.snap e false (Go.Ev.app xs ys) false))
/-- What E gives. -/
theorem Chn.put {P : Program} {ops : Array Oper} {o : Oper} {st st' : St} {t : TypeId} {x : Tmp} {y : Operand} {e : TypeId} {d : Tmp} {ys : List D} (h : Chn P ops o st st' t x y e d ys) : ∃ a, st' = st.set (some d) a := by
  rcases h.st with ⟨_, _, h⟩ | ⟨_, _, _, _, _, _, _, _, _, _, h⟩
  · exact ⟨_, h⟩
  · exact ⟨_, h⟩
/-- One operation of a region in which only stores write. -/
def TStep (P : Program) (lim : Option Nat) (may : Bool) (ops : Array Oper) (o : Oper) (st st' : St) : Prop :=
  (isSto o = true ∧ st' = st) ∨ (isSto o = false ∧ may = true ∧ ∃ t x y e d ys, Chn P ops o st st' t x y e d ys) ∨
  (isSto o = false ∧ (may = true → lim.isSome = true → appOf o = none) ∧ ∃ y, GuardIs ops o st y ∧ ((y = true ∧ ∃ a obs1, SDoes P lim may o st a obs1 ∧ st' = St.set { st with obs := obs1 } o.dst a) ∨ (y = false ∧ st' = st.set o.dst (.tup []))))

section
variable {P : Program} {R : Type} {r : R}

theorem stillE_trace (T : TabOk P) (F : FnOk P) {cf : Cfg} (hS : ∀ s ∈ cf.S, Contract P s) {may : Bool} {lim : Option Nat} {ops : Array Oper} {K : St → Option R} : ∀ (l : List Oper) {st : St}, stillE P cf may lim ops l st K = some r →
    ∃ s : Nat → St, s 0 = st ∧ K (s l.length) = some r ∧ ∀ i o, l[i]? = some o → TStep P lim may ops o (s i) (s (i + 1))
  | [], st, h => ⟨fun _ => st, rfl, h, fun i o hi => by simp at hi⟩
  | o :: l, st, h => by
    have key : ∀ st1, TStep P lim may ops o st st1 → stillE P cf may lim ops l st1 K = some r → ∃ s : Nat → St, s 0 = st ∧ K (s (o :: l).length) = some r ∧ ∀ i o', (o :: l)[i]? = some o' → TStep P lim may ops o' (s i) (s (i + 1)) := fun st1 h1 h2 => by
      obtain ⟨s, g0, g1, g2⟩ := stillE_trace T F hS l h2
      refine ⟨fun i => match i with | 0 => st | i + 1 => s i, rfl, g1, fun i o' hi => ?_⟩
      cases i with
      | zero => simp at hi; subst hi; show TStep P lim may ops o st (s 0); rw [g0]; exact h1
      | succ i => exact g2 i o' (by simpa using hi)
    unfold stillE at h
    split at h
    · rename_i hop
      exact key st (.inl ⟨by simp [isSto, hop], rfl⟩) h
    · rename_i hop
      have hns : isSto o = false := by
        unfold isSto
        split
        · rename_i a b c hh; exact absurd hh (hop a b c)
        · rfl
      split at h
      · rename_i t x y hap
        have hmay : may = true ∧ appOf o = some (t, x, y) := by
          split at hap
          · rename_i hm
            simp only [Bool.and_eq_true] at hm
            exact ⟨hm.1, hap⟩
          · cases hap
        obtain ⟨hmay, hap⟩ := hmay
        unfold chainE at h
        split at h
        · rename_i e d hty hd
          split at h
          · cases h
          · rename_i hc0
            simp only [Bool.or_eq_true, not_or, Bool.not_eq_true, beq_eq_false_iff_ne, ne_eq, Bool.not_eq_false'] at hc0
            obtain ⟨⟨⟨⟨hpos, hpl⟩, hne⟩, hsf⟩, hlt⟩ := hc0
            have hney : y ≠ .tmp d := by rintro rfl; simp [selfOf] at hsf
            have hlt : d < st.tmps.length := by simpa [Nat.blt_eq] using hlt
            split at h
            · cases h
            · rename_i ys hys
              split at h
              · rename_i hlit
                rcases cnd_some h with ⟨hroom, h⟩ | ⟨_, h⟩
                · refine key (st.set (some d) (if innerT ops d then .junk else .snap e false ys false)) (.inr (.inl ⟨hns, hmay, t, x, y, e, d, ys, ⟨hap, hty, hpos, hpl, hd, hne, hney, hlt, hys, .inl ⟨hlit, hroom, rfl⟩⟩⟩)) ?_
                  split at h
                  · rename_i hi; rw [if_pos hi]; exact h
                  · rename_i hi; rw [if_neg (by rw [hi]; simp)]; exact h
                · cases h
              · rename_i hlit
                split at h
                · cases h
                · rename_i p hp
                  split at h
                  · cases h
                  · rename_i t' x' y' hap'
                    split at h
                    · cases h
                    · rename_i hb
                      split at h
                      · cases h
                      · rename_i xs hxs
                        simp only [Bool.and_eq_true, beq_iff_eq, Bool.not_eq_true'] at hb
                        obtain ⟨rfl, hin⟩ := hb
                        rcases cnd_some h with ⟨hroom, h⟩ | ⟨_, h⟩
                        · exact key _ (.inr (.inl ⟨hns, hmay, t, x, y, e, d, ys, ⟨hap, hty, hpos, hpl, hd, hne, hney, hlt, hys, .inr ⟨hlit, hin, p, x', y', xs, hp, hap', hxs, hroom, rfl⟩⟩⟩)) h
                        · cases h
        · cases h
      rename_i hap
      have hno : may = true → lim.isSome = true → appOf o = none := fun h1 h2 => by
        rw [h1, h2] at hap
        simpa using hap
      rcases guardE_split h with ⟨hg, hy⟩ | ⟨hg, hn⟩
      · obtain ⟨a, obs1, hK, hd⟩ := stillOp_sound (P := P) T F hS hy
        exact key _ (.inr (.inr ⟨hns, hno, true, hg, .inl ⟨rfl, a, obs1, hd, rfl⟩⟩)) hK
      · exact key _ (.inr (.inr ⟨hns, hno, false, hg, .inr ⟨rfl, rfl⟩⟩)) hn

/-- What a step leaves: things grow; a temporary that is not its own stands. -/
theorem TStep.wk {lim : Option Nat} {may : Bool} {ops : Array Oper} {o : Oper} {st st' : St} (h : TStep P lim may ops o st st') : Wk st.obs st'.obs := by
  rcases h with ⟨_, rfl⟩ | ⟨_, _, _, _, _, _, _, _, hc⟩ | ⟨_, _, y, _, ⟨_, a, obs1, hd, rfl⟩ | ⟨_, rfl⟩⟩
  · exact Wk.refl _
  · obtain ⟨a, e⟩ := hc.put
    rw [e, set_obs]; exact Wk.refl _
  · rw [set_obs]; exact hd.1
  · rw [set_obs]; exact Wk.refl _
theorem TStep.tmps {lim : Option Nat} {may : Bool} {ops : Array Oper} {o : Oper} {st st' : St} (h : TStep P lim may ops o st st') {t : Tmp} (ht : isSto o = true ∨ o.dst ≠ some t) : st'.tmps.getD t .junk = st.tmps.getD t .junk := by
  rcases h with ⟨_, rfl⟩ | ⟨hs, _, _, _, _, _, d, _, hc⟩ | ⟨hs, _, y, _, ⟨_, a, obs1, hd, rfl⟩ | ⟨_, rfl⟩⟩
  · rfl
  · obtain ⟨a, e⟩ := hc.put
    rw [e]; exact set_tmps (by rw [← hc.dst]; exact ht.resolve_left (by rw [hs]; simp))
  · exact set_tmps (st := { st with obs := obs1 }) (ht.resolve_left (by rw [hs]; simp))
  · exact set_tmps (ht.resolve_left (by rw [hs]; simp))
theorem set_len (st : St) (dst : Option Tmp) (a : A) : (st.set dst a).tmps.length = st.tmps.length := by cases dst <;> simp [St.set]
theorem TStep.len {lim : Option Nat} {may : Bool} {ops : Array Oper} {o : Oper} {st st' : St} (h : TStep P lim may ops o st st') : st'.tmps.length = st.tmps.length := by
  rcases h with ⟨_, rfl⟩ | ⟨hs, _, _, _, _, _, _, _, hc⟩ | ⟨hs, _, y, _, ⟨_, a, obs1, hd, rfl⟩ | ⟨_, rfl⟩⟩
  · rfl
  · obtain ⟨a, e⟩ := hc.put
    rw [e, set_len]
  · rw [set_len]
  · rw [set_len]

/-- A trace. -/
structure Tr (P : Program) (lim : Option Nat) (may : Bool) (ops : Array Oper) (s : Nat → St) : Prop where
  step : ∀ (i : Nat) o, ops[i]? = some o → TStep P lim may ops o (s i) (s (i + 1))
theorem Tr.wk {lim : Option Nat} {may : Bool} {ops : Array Oper} {s : Nat → St} (h : Tr P lim may ops s) {i : Nat} : ∀ {j : Nat}, i ≤ j → j ≤ ops.size → Wk (s i).obs (s j).obs
  | 0, hij, _ => by have : i = 0 := by omega
                    subst this; exact Wk.refl _
  | j + 1, hij, hj => by
    by_cases e : i = j + 1
    · subst e; exact Wk.refl _
    · exact (h.wk (j := j) (by omega) (by omega)).trans (h.step j ops[j] (by simp [show j < ops.size by omega])).wk
theorem Tr.len {lim : Option Nat} {may : Bool} {ops : Array Oper} {s : Nat → St} (h : Tr P lim may ops s) : ∀ {j : Nat}, j ≤ ops.size → (s j).tmps.length = (s 0).tmps.length
  | 0, _ => rfl
  | j + 1, hj => (h.step j ops[j] (by simp [show j < ops.size by omega])).len.trans (h.len (by omega))
/-- A temporary that no operation between writes. -/
theorem Tr.tmps {lim : Option Nat} {may : Bool} {ops : Array Oper} {s : Nat → St} (h : Tr P lim may ops s) {i : Nat} {t : Tmp} : ∀ {j : Nat}, i ≤ j → j ≤ ops.size → (∀ (k : Nat) o, i ≤ k → k < j → ops[k]? = some o → isSto o = true ∨ o.dst ≠ some t) →
    (s j).tmps.getD t .junk = (s i).tmps.getD t .junk
  | 0, hij, _, _ => by have : i = 0 := by omega
                       subst this; rfl
  | j + 1, hij, hj, hk => by
    by_cases e : i = j + 1
    · subst e; rfl
    · have hjo : ops[j]? = some ops[j] := by simp [show j < ops.size by omega]
      exact ((h.step j ops[j] hjo).tmps (hk j _ (by omega) (by omega) hjo)).trans (h.tmps (by omega) (by omega) fun k o h1 h2 h3 => hk k o h1 (by omega) h3)

end
end Go.Ev

namespace Go.Ev
open Go

/-- A block that was made in the region, of which no thing speaks, and which may be written. -/
def PrvB (n0 : Nat) (Γ : Env) (b : Nat) : Prop := n0 ≤ b ∧ (∀ o p, Γ.β o = some p → p.block ≠ some b) ∧ ¬ Γ.Fz b
/-- A slice that holds these data: an empty one without room, or one of such a block. -/
def Prv (P : Program) (n0 : Nat) (Γ : Env) (w : World) (e : TypeId) (v : Value) (xs : List D) : Prop :=
  (xs = [] ∧ ∃ a, v = .slice (some a) 0 0) ∨
  ∃ b cap C, v = .slice (some ⟨b, 0, none⟩) xs.length cap ∧ PrvB n0 Γ b ∧ w.heap[b]? = some (.cells C e (0, 0)) ∧ cap * P.cellsOf e ≤ C.size ∧ xs.length ≤ cap ∧
    ∀ (i : Nat) y, xs[i]? = some y → DRel P w Γ.Fz e y (cellsIn C (i * P.cellsOf e) (P.cellsOf e))
/-- What such an append leaves as it was. -/
structure PStep (n0 : Nat) (Γ : Env) (w w' : World) : Prop where
  os : w'.os = w.os
  tape : w'.tape = w.tape
  output : w'.output = w.output
  size : w.heap.size ≤ w'.heap.size
  same : ∀ b, b < w.heap.size → ¬ PrvB n0 Γ b → w'.heap[b]? = w.heap[b]?

section
variable {P : Program}

theorem Prv.step {n0 : Nat} {Γ Γ' : Env} {w w' : World} {e : TypeId} {v : Value} {xs : List D} (h : Prv P n0 Γ w e v xs) (hs : Step 0 Γ Γ' w w') : Prv P n0 Γ' w' e v xs := by
  rcases h with h | ⟨b, cap, C, h1, ⟨h2, h3, h4⟩, h5, h6, h7, h8⟩
  · exact .inl h
  · have hb := (Array.getElem?_eq_some_iff.1 h5).1
    refine .inr ⟨b, cap, C, h1, ⟨h2, fun o p hp hpb => ?_, fun hf => ?_⟩, (hs.frame b hb h3).trans h5, h6, h7, fun i y hy => (h8 i y hy).mono hs.fz hs.fzs⟩
    · rcases hs.new o p b hp hpb with h | ⟨o', p', h, h'⟩
      · omega
      · exact h3 o' p' h h'
    · rcases hs.fznew b hf with h | h | ⟨o', p', h, h'⟩
      · exact h4 h
      · omega
      · exact h3 o' p' h h'

/-- One more append. -/
theorem app_prv (T : TabOk P) {n0 : Nat} {Γ : Env} {w : World} {t ty e : TypeId} {v : Value} {xs ys : List D} (hn0 : n0 ≤ w.heap.size) (hfz : ∀ b, Γ.Fz b → b < w.heap.size) (hbk : ∀ o p b, Γ.β o = some p → p.block = some b → b < w.heap.size)
    (hp : plainT P 20 e = true) (hu : P.underlying t = some (.slice e)) (hv : Prv P n0 Γ w e v xs) {q : Option Addr} {cx : Nat} (hq0 : q = none → ys = []) (hqs : ∀ a, q = some a → ∃ news, Src P w Γ e ys a news)
    (hroom : room (nadd (len xs) (len ys)) (P.bytesOf e) = true) :
    ∃ v' w', (Builtin.append_ #[t, t] ty #[v, .slice q ys.length cx]).run P w = .ok v' w' ∧ Prv P n0 Γ w' e v' (app xs ys) ∧ PStep n0 Γ w w' := by
  obtain ⟨i, z, hi, hz, hd, _⟩ := zero_ok T hp
  have hsz : i.size = P.cellsOf e := by simp [Program.cellsOf, hi]
  have hby : i.bytes = P.bytesOf e := by simp [Program.bytesOf, hi]
  have hzl : z.cells.size = P.cellsOf e := by simpa using (hd default (fun _ => False)).len T (plain_lt hp)
  obtain ⟨hr1, hr2⟩ := room_ok hroom
  have hl1 : len xs = xs.length := rfl
  have hl2 : len ys = ys.length := rfl
  rw [hl1, hl2] at hr1 hr2
  by_cases hye : ys = []
  · subst hye
    have e1 : app xs [] = xs := by simp [app]
    rw [e1]
    refine ⟨v, w, ?_, hv, ⟨rfl, rfl, rfl, Nat.le_refl _, fun _ _ _ => rfl⟩⟩
    rcases hv with ⟨_, a, rfl⟩ | ⟨b, cap, C, rfl, _, _, _, h7, _⟩
    · exact run_append_zero hu hi (Nat.le_refl _)
    · exact run_append_zero hu hi h7
  · obtain ⟨a, rfl⟩ : ∃ a, q = some a := by cases q with | none => exact absurd (hq0 rfl) hye | some a => exact ⟨a, rfl⟩
    obtain ⟨news, hsrc⟩ := hqs a rfl
    have hpos : 0 < ys.length := List.length_pos_iff.2 hye
    -- a new array
    have fresh : ∀ (olds : List Value) (b0 : Addr) (c0 : Nat), v = .slice (some b0) xs.length c0 → olds.length = xs.length * P.cellsOf e → (∀ j u, olds[j]? = some u → w.cell? (b0.add j) = some u) →
        (∀ (i : Nat) y, xs[i]? = some y → DRel P w Γ.Fz e y ((olds.drop (i * P.cellsOf e)).take (P.cellsOf e))) → c0 < xs.length + ys.length → Builtin.nextslicecap (xs.length + ys.length) c0 * i.bytes ≤ 281474976710656 →
        ∃ v' w', (Builtin.append_ #[t, t] ty #[v, .slice (some a) ys.length cx]).run P w = .ok v' w' ∧ Prv P n0 Γ w' e v' (app xs ys) ∧ PStep n0 Γ w w' := fun olds b0 c0 hvs ho hoc hod hc0 hfit => by
      have hrun := run_append_grow (P := P) w t ty e i z hu hi hz b0 xs.length c0 olds (by rw [hsz]; exact ho) hoc a ys.length cx news (by rw [hsz]; exact hsrc.len) hsrc.cells hc0 (by omega) hfit
      have hge := grownCap_ge w (xs.length + ys.length) c0 e
      have hdat := new_cells (P := P) (w := w) (e := e) (es := xs) (xs := ys) (olds := olds) (news := news) (rest := Builtin.zeroCells z.cells (grownCap w (xs.length + ys.length) c0 e - (xs.length + ys.length))) (Fz := Γ.Fz) ho hsrc.len hod hsrc.data
      have hlen : (app xs ys).length = xs.length + ys.length := by simp [app]
      refine ⟨_, _, by rw [hvs]; exact hrun, .inr ⟨w.heap.size, grownCap w (xs.length + ys.length) c0 e, _, by rw [hlen], ⟨hn0, fun o p hp hpb => ?_, fun hf => ?_⟩, drew_alloc_new w _, ?_, by rw [hlen]; exact hge, fun i y hy => (hdat i y hy).mono (fun _ h => h) (fun b hb => drew_alloc_old w _ (hfz b hb))⟩,
        ⟨rfl, rfl, rfl, by simp, fun b hb _ => drew_alloc_old w _ hb⟩⟩
      · have := hbk o p _ hp hpb; omega
      · have := hfz _ hf; omega
      · simp only [Array.size_append, List.size_toArray, size_zeroCells, hzl, ho, hsrc.len, ← Nat.add_mul]
        exact Nat.mul_le_mul_right _ (by omega)
    rcases hv with ⟨rfl, b0, hvs⟩ | ⟨b, cap, C, hvs, hpb, hC, hcs, hcl, hdt⟩
    · simp only [List.length_nil, Nat.zero_add] at fresh hr1 hr2
      exact fresh [] b0 0 hvs (by simp) (fun j u h => by simp at h) (fun i y h => by simp at h) hpos (growslice_fits hpos (by rw [hby]; omega))
    · by_cases hin : xs.length + ys.length ≤ cap
      · -- in place
        have hle : (xs.length + ys.length) * P.cellsOf e ≤ cap * P.cellsOf e := Nat.mul_le_mul_right _ hin
        have hfit : xs.length * i.size + news.length ≤ C.size := by rw [hsz, hsrc.len, ← Nat.add_mul]; omega
        have hr := run_append_room (P := P) w t ty e i hu hi b xs.length cap C hC a ys.length cx news (by rw [hsz]; exact hsrc.len) hsrc.cells hsrc.one hin hfit
        rw [hsz, hsrc.len] at hr
        have hlen : (app xs ys).length = xs.length + ys.length := by simp [app]
        have hol : (C.toList.take (xs.length * P.cellsOf e)).length = xs.length * P.cellsOf e := by
          have hcl' : C.toList.length = C.size := Array.length_toList
          rw [List.length_take]
          rw [hsz, hsrc.len] at hfit
          omega
        refine ⟨_, _, by rw [hvs]; exact hr, .inr ⟨b, cap, _, by rw [hlen], hpb, setRow_heap w b C _ e (0, 0) hC, ?_, by rw [hlen]; exact hin, fun i y hy => ?_⟩, ⟨rfl, rfl, rfl, by simp [World.setRow], fun k _ hk => setRow_other w b k _ (fun e => hk (e ▸ hpb))⟩⟩
        · simp only [List.size_toArray, List.length_append, hol, hsrc.len, List.length_drop, Array.length_toList]
          rw [hsz, hsrc.len] at hfit
          omega
        · have hnc := new_cells (P := P) (w := w) (e := e) (es := xs) (xs := ys) (olds := C.toList.take (xs.length * P.cellsOf e)) (news := news) (rest := (C.toList.drop (xs.length * P.cellsOf e + ys.length * P.cellsOf e)).toArray) (Fz := Γ.Fz) hol hsrc.len (fun i y hy => by
            have h1 := hdt i y hy
            have hi := (List.getElem?_eq_some_iff.1 hy).1
            have hle : (i + 1) * P.cellsOf e ≤ xs.length * P.cellsOf e := Nat.mul_le_mul_right _ hi
            rw [Nat.add_mul, Nat.one_mul] at hle
            unfold cellsIn at h1
            have e2 : ((C.toList.take (xs.length * P.cellsOf e)).drop (i * P.cellsOf e)).take (P.cellsOf e) = (C.toList.drop (i * P.cellsOf e)).take (P.cellsOf e) := by
              rw [List.drop_take, List.take_take, Nat.min_eq_left (by omega)]
            rw [e2]; exact h1) hsrc.data i y hy
          have e3 : ((C.toList.take (xs.length * P.cellsOf e)).toArray ++ news.toArray ++ (C.toList.drop (xs.length * P.cellsOf e + ys.length * P.cellsOf e)).toArray) = (C.toList.take (xs.length * P.cellsOf e) ++ news ++ C.toList.drop (xs.length * P.cellsOf e + ys.length * P.cellsOf e)).toArray := by
            apply Array.ext'; simp
          rw [e3] at hnc
          exact hnc.mono (fun _ h => h) (fun k hk => setRow_other w b k _ (fun e => hpb.2.2 (e ▸ hk)))
      · have hle : xs.length * P.cellsOf e ≤ cap * P.cellsOf e := Nat.mul_le_mul_right _ hcl
        refine fresh (cellsIn C 0 (xs.length * P.cellsOf e)) ⟨b, 0, none⟩ cap hvs (cellsIn_length (by omega)) (cells_add (cellsIn_at hC 0 _)) (fun i y hy => ?_) (by omega) (growslice_fits (by omega) (by rw [hby]; omega))
        have hi := (List.getElem?_eq_some_iff.1 hy).1
        have hle : (i + 1) * P.cellsOf e ≤ xs.length * P.cellsOf e := Nat.mul_le_mul_right _ hi
        rw [Nat.add_mul, Nat.one_mul] at hle
        unfold cellsIn
        rw [cut_cut _ _ _ _ _ hle, Nat.zero_add]
        exact hdt i y hy

/-- What lies in such a block is data that nobody writes any more, from now on. -/
theorem Prv.freeze {n0 : Nat} {Γ : Env} {w : World} {e : TypeId} {v : Value} {xs : List D} (h : Prv P n0 Γ w e v xs) : ∃ Fz' : Nat → Prop, (∀ b, Γ.Fz b → Fz' b) ∧ (∀ b, Fz' b → Γ.Fz b ∨ (PrvB n0 Γ b ∧ b < w.heap.size)) ∧ VRel P w ⟨Γ.β, Fz'⟩ (.snap e false xs false) v := by
  rcases h with ⟨rfl, a, rfl⟩ | ⟨b, cap, C, rfl, hpb, hC, hcs, hcl, hdt⟩
  · exact ⟨Γ.Fz, fun _ h => h, fun _ h => .inl h, .mk1 (.snapE rfl rfl) rfl (by simp) rfl⟩
  · refine ⟨fun k => Γ.Fz k ∨ k = b, fun _ h => .inl h, fun k hk => hk.imp id fun e => by subst e; exact ⟨hpb, (Array.getElem?_eq_some_iff.1 hC).1⟩, .mk1 (.snap rfl (.inr rfl) rfl hcl (by simp) (fun i => cellsIn C (i * P.cellsOf e) (P.cellsOf e)) (fun i hi => ?_) (fun i y hy => (hdt i y hy).mono (fun _ h => .inl h) (fun _ _ => rfl))) rfl (by simp) rfl⟩
    have hle : (i + 1) * P.cellsOf e ≤ xs.length * P.cellsOf e := Nat.mul_le_mul_right _ hi
    have hle2 : xs.length * P.cellsOf e ≤ cap * P.cellsOf e := Nat.mul_le_mul_right _ hcl
    rw [Nat.add_mul, Nat.one_mul] at hle
    exact ⟨cellsIn_length (by omega), by rw [Nat.zero_add]; exact cellsIn_at hC _ _⟩

end
end Go.Ev
