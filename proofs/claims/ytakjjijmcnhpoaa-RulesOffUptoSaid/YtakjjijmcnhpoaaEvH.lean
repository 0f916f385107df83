/- The evaluator E: guards. The evaluator E: regions in order in which nothing is written. The evaluator E: regions that come to one truth. The evaluator E: guards once more; the trace of a region. The evaluator E: the trace of a region in open order. -/
import Derived.Test.YtakjjijmcnhpoaaEvG
import Derived.Tactics
namespace Go.Ev
open Go

section
variable {P : Program} {R : Type} {r : R}

theorem set_same {st : St} {d : Tmp} {a : A} (h : st.tmps[d]? = some a) : St.set st (some d) a = st := by
  unfold St.set
  have : st.tmps.set d a = st.tmps := by
    apply List.ext_getElem?
    intro i
    rw [List.getElem?_set]
    split
    · rename_i hi
      subst hi
      split
      · exact h.symm
      · rename_i hlt
        rw [List.getElem?_eq_none (by omega)]
    · rfl
  simp only [this]
/-- A guard, as E reckons it, and as the machine does. -/
theorem guardE_ok {ops : Array Oper} {o : Oper} {st : St} {yes no : St → Option R} (h : guardE ops o st yes no = some r) {Γ : Env} {w : World} {act : Act}
    (ht : ∀ (j : Nat) b d, o.guard = some (j, b) → (ops[j]?).bind (·.dst) = some d → VRel P w Γ (st.tmps.getD d .junk) (act.tmps.getD d undef)) (hsz : st.tmps.length = act.tmps.size) :
    (Region.wanted o (yielded ops act.tmps) = true ∧ yes st = some r) ∨ (Region.wanted o (yielded ops act.tmps) = false ∧ no st = some r) := by
  unfold guardE at h
  unfold Region.wanted
  split at h
  · rename_i hg
    rw [hg]
    exact .inl ⟨rfl, h⟩
  · rename_i j want hg
    rw [hg]
    split at h
    · cases h
    · rename_i d hd
      have hrel := ht j want d hg hd
      split at h
      · rename_i b hb
        have hb' : st.tmps.getD d .junk = .bool b := by rw [List.getD_eq_getElem?_getD, hb]; rfl
        rw [hb'] at hrel
        have hlt : d < act.tmps.size := by rw [← hsz]; exact (List.getElem?_eq_some_iff.1 hb).1
        have hm : act.tmps[d]? = some (.bool b) := by
          have := hrel.bool
          rw [Array.getD_eq_getD_getElem?, Array.getElem?_eq_getElem hlt] at this
          rw [Array.getElem?_eq_getElem hlt]
          simpa using this
        have hy : yielded ops act.tmps j = some b := by unfold yielded; rw [hd]; simp [hm]
        have hset : ∀ b', b = b' → St.set st (some d) (.bool b') = st := fun b' e => by rw [← e]; exact set_same hb
        show ((yielded ops act.tmps j == some want) = true ∧ _) ∨ _
        rw [hy]
        cases want with
        | true =>
          rcases cnd_some h with ⟨hbb, h⟩ | ⟨hbb, h⟩
          · rw [hset true hbb] at h
            exact .inl ⟨by rw [hbb]; rfl, h⟩
          · rw [hset false hbb] at h
            refine .inr ⟨?_, h⟩
            show (yielded ops act.tmps j == some true) = false
            rw [hy, hbb]; rfl
        | false =>
          rcases cnd_some h with ⟨hbb, h⟩ | ⟨hbb, h⟩
          · rw [hset true hbb] at h
            refine .inr ⟨?_, h⟩
            show (yielded ops act.tmps j == some false) = false
            rw [hy, hbb]; rfl
          · rw [hset false hbb] at h
            exact .inl ⟨by rw [hbb]; rfl, h⟩
      · rename_i hb
        have hb' : st.tmps.getD d .junk = .tup [] := by rw [List.getD_eq_getElem?_getD, hb]; rfl
        rw [hb'] at hrel
        obtain ⟨vs, h1, _, _⟩ := hrel
        have hlt : d < act.tmps.size := by rw [← hsz]; exact (List.getElem?_eq_some_iff.1 hb).1
        have hm : act.tmps[d]? = some (.tuple vs) := by
          rw [Array.getD_eq_getD_getElem?, Array.getElem?_eq_getElem hlt] at h1
          rw [Array.getElem?_eq_getElem hlt]
          simpa using h1
        have hy : yielded ops act.tmps j = none := by unfold yielded; rw [hd]; simp [hm]
        refine .inr ⟨?_, h⟩
        show (yielded ops act.tmps j == some want) = false
        rw [hy]; rfl
      · cases h

theorem VRel.undef {w : World} {Γ : Env} : VRel P w Γ (.tup []) undef := ⟨#[], rfl, rfl, fun i a x h => by simp at h⟩

end
end Go.Ev

namespace Go.Ev
open Go

section
variable {P : Program} {R : Type} {r : R}

theorem Rel.skip {fl : Nat} {st : St} {Γ : Env} {w : World} {act : Act} (h : Rel P fl st Γ w act) (dst : Option Tmp) : Rel P fl (st.set dst (.tup [])) Γ w (act.put dst undef) :=
  h.set (obs1 := st.obs) ⟨fun _ h => h, fun _ _ => rfl, fun _ _ _ h => h⟩ h.mem h.free dst VRel.undef
theorem set_obs (st : St) (dst : Option Tmp) (a : A) : (st.set dst a).obs = st.obs := by cases dst <;> rfl
theorem set_tmps {st : St} {dst : Option Tmp} {a : A} {t : Tmp} (h : dst ≠ some t) : (st.set dst a).tmps.getD t .junk = st.tmps.getD t .junk := by
  cases dst with
  | none => rfl
  | some d =>
    show (st.tmps.set d a).getD t .junk = _
    rw [set_getD, if_neg (by rintro ⟨rfl, _⟩; exact h rfl)]
theorem put_tmps {act : Act} {dst : Option Tmp} {v : Value} {t : Tmp} (h : dst ≠ some t) : (act.put dst v).tmps.getD t undef = act.tmps.getD t undef := by
  cases dst with
  | none => rfl
  | some d => rw [put_getD, if_neg (by rintro ⟨rfl, _⟩; exact h rfl)]

/-- Operations that write nothing, in order. -/
theorem still_seq (T : TabOk P) (F : FnOk P) {cf : Cfg} (hS : ∀ s ∈ cf.S, Contract P s) {may : Bool} {ops : Array Oper} {K : St → Option R} {fl : Nat} {Q : Exit → Act → World → Prop} : ∀ (l : List Oper) {st : St}, (∀ o ∈ l, isStill o = true) → stillE P cf may none ops l st K = some r →
    ∀ {Γ : Env} {w : World} {act : Act}, Rel P fl st Γ w act →
    (∀ st' Γ' w' act', K st' = some r → Rel P fl st' Γ' w' act' → (may = false → Pre st.obs st'.obs) → (∀ base, Step base Γ Γ' w w') → (∀ b, b < w.heap.size → w'.heap[b]? = w.heap[b]?) → (∀ t, (∀ o ∈ l, o.dst ≠ some t) → st'.tmps.getD t .junk = st.tmps.getD t .junk ∧ act'.tmps.getD t undef = act.tmps.getD t undef) → act'.tmps.size = act.tmps.size → Q .normal act' w') →
    wpList P ops Q l act w
  | [], st, _, h, Γ, w, act, hr, hQ => hQ st Γ w act h hr (fun _ => Pre.refl _) (fun _ => Step.refl _ _ _) (fun _ _ => rfl) (fun _ _ => ⟨rfl, rfl⟩) rfl
  | o :: l, st, hst, h, Γ, w, act, hr, hQ => by
    have ho := hst o (by simp)
    have h' : guardE ops o st (fun st => stillOp P cf may none o st fun a obs => stillE P cf may none ops l (St.set { st with obs := obs } o.dst a) K) (fun st => stillE P cf may none ops l (st.set o.dst (.tup [])) K) = some r := by
      unfold stillE at h
      split at h
      · rename_i hop; simp [isStill, hop] at ho
      · exact h
    simp only [wpList]
    rcases guardE_ok (P := P) (Γ := Γ) (w := w) (act := act) h' (fun j b d _ _ => hr.tmps d) hr.size with ⟨hw, hy⟩ | ⟨hw, hn⟩
    · rw [if_pos hw]
      refine .inl ((stillOp_sound (P := P) T F hS hy).seq hr fun a obs1 Γ' w' act' hK hwk hpre hr' hstep hold hact => ?_)
      refine still_seq T F hS l (fun o ho => hst o (by simp [ho])) hK hr' fun st2 Γ2 w2 act2 hK2 hr2 hp2 hs2 ho2 ht2 hz2 => ?_
      obtain ⟨v, rfl⟩ := hact
      refine hQ st2 Γ2 w2 act2 hK2 hr2 (fun hm => (hpre hm).trans (by have := hp2 hm; rwa [set_obs] at this)) (fun base => (hstep base).trans (hs2 base)) (fun b hb => (ho2 b (Nat.lt_of_lt_of_le hb (hstep 0).size)).trans (hold b hb)) (fun t ht => ?_) (hz2.trans (by cases o.dst <;> simp [Act.put]))
      obtain ⟨e1, e2⟩ := ht2 t fun o ho => ht o (by simp [ho])
      have hne := ht o (by simp)
      exact ⟨e1.trans (set_tmps (st := { st with obs := obs1 }) hne), e2.trans (put_tmps hne)⟩
    · rw [if_neg (by rw [hw]; simp)]
      refine still_seq T F hS l (fun o ho => hst o (by simp [ho])) hn (hr.skip o.dst) fun st2 Γ2 w2 act2 hK2 hr2 hp2 hs2 ho2 ht2 hz2 => ?_
      refine hQ st2 Γ2 w2 act2 hK2 hr2 (fun hm => by have := hp2 hm; rwa [set_obs] at this) hs2 ho2 (fun t ht => ?_) (hz2.trans (by cases o.dst <;> simp [Act.put]))
      obtain ⟨e1, e2⟩ := ht2 t fun o ho => ht o (by simp [ho])
      have hne := ht o (by simp)
      exact ⟨e1.trans (set_tmps hne), e2.trans (put_tmps hne)⟩

end
end Go.Ev

namespace Go.Ev
open Go

section
variable {P : Program} {R : Type} {r : R}

theorem forget_obs : ∀ (l : List Oper) (st : St), (forget l st).obs = st.obs
  | [], _ => rfl
  | o :: l, st => (forget_obs l _).trans (set_obs st o.dst .junk)
theorem forget_len : ∀ (l : List Oper) (st : St), (forget l st).tmps.length = st.tmps.length
  | [], _ => rfl
  | o :: l, st => (forget_len l _).trans (by cases o.dst <;> simp [St.set])
theorem forget_tmps : ∀ (l : List Oper) (st : St) (t : Tmp), (forget l st).tmps.getD t .junk = .junk ∨ ((∀ o ∈ l, o.dst ≠ some t) ∧ (forget l st).tmps.getD t .junk = st.tmps.getD t .junk)
  | [], st, t => .inr ⟨fun o h => by simp at h, rfl⟩
  | o :: l, st, t => by
    simp only [forget]
    rcases forget_tmps l (st.set o.dst .junk) t with h | ⟨h1, h2⟩
    · exact .inl h
    · by_cases e : o.dst = some t
      · left
        rw [h2, e]
        show (st.tmps.set t .junk).getD t .junk = .junk
        rw [set_getD]
        split
        · rfl
        · rename_i hn
          have : ¬ t < st.tmps.length := fun h => hn ⟨rfl, h⟩
          rw [List.getD_eq_getElem?_getD, List.getElem?_eq_none (by omega)]; rfl
      · refine .inr ⟨fun o' ho' => ?_, h2.trans (set_tmps e)⟩
        rcases List.mem_cons.1 ho' with rfl | ho'
        · exact e
        · exact h1 o' ho'

/-- Of a region in which nothing is written one truth is kept. -/
theorem join_rel {fl : Nat} {st st' : St} {Γ Γ' : Env} {w w' : World} {act act' : Act} (h : Rel P fl st Γ w act) (h' : Rel P fl st' Γ' w' act') (hpre : Pre st.obs st'.obs) (hstep : ∀ base, Step base Γ Γ' w w') (hold : ∀ b, b < w.heap.size → w'.heap[b]? = w.heap[b]?)
    (l : List Oper) (htm : ∀ t, (∀ o ∈ l, o.dst ≠ some t) → act'.tmps.getD t undef = act.tmps.getD t undef) (hsz : act'.tmps.size = act.tmps.size) {d : Tmp} {b : Bool} (hb : truthAt st' d = some b) :
    Rel P fl (St.set (forget l st) (some d) (.bool b)) ⟨Γ.β, Γ'.Fz⟩ w' act' ∧ ∀ base, Step base Γ ⟨Γ.β, Γ'.Fz⟩ w w' := by
  have hS := hstep 0
  have hext : Ext (fun _ => True) w w' Γ ⟨Γ.β, Γ'.Fz⟩ := ⟨hS.fz, hS.fzs, fun _ _ _ h => h⟩
  have hlt : ∀ o p bl, Γ.β o = some p → p.block = some bl → bl < w.heap.size := fun o p bl hp hbl => by
    obtain ⟨_, _, _, h3, _⟩ := h.mem.ob o p hp
    exact h3.lt hbl
  have hkeep : ∀ o p, Γ.β o = some p → Γ'.β o = some p := fun o p hp => (hstep (o + 1)).keep o p (by omega) hp
  refine ⟨⟨⟨fun o p hp => ?_, h.mem.inj, h'.mem.fzlt⟩, fun o p bl ob ho hp hbl hob hrw => ?_, fun t => ?_, ?_, h'.ndef⟩, fun base => ⟨hS.os, hS.tape, hS.output, hS.size, hS.fz, hS.fzs, fun k hk _ => hold k hk, hS.fznew, fun _ _ _ h => h, fun o p bl hp hbl => .inr ⟨o, p, hp, hbl⟩⟩⟩
  · obtain ⟨ob, h1, h2, h3, h4⟩ := h.mem.ob o p hp
    have hbl : ∀ bl, p.block = some bl → w'.heap[bl]? = w.heap[bl]? := fun bl hb => hold bl (h3.lt hb)
    exact ⟨ob, by rw [set_obs, forget_obs]; exact h1, h2, h3.same hbl, fun hc => (h4 hc).same hbl ⟨hS.fz, hS.fzs, fun _ _ _ h => h⟩⟩
  · rw [set_obs, forget_obs] at hob
    obtain ⟨ex, he⟩ := hpre
    exact h'.free o p bl ob ho (hkeep o p hp) hbl (by rw [he, List.getElem?_append_left (List.getElem?_eq_some_iff.1 hob).1]; exact hob) hrw
  · show VRel P w' _ (((forget l st).tmps.set d (.bool b)).getD t .junk) (act'.tmps.getD t undef)
    rw [set_getD]
    split
    · rename_i hd
      obtain ⟨rfl, _⟩ := hd
      have hv := h'.tmps d
      unfold truthAt at hb
      split at hb
      · rename_i b' hb'
        cases hb
        rw [hb'] at hv
        rw [hv.bool]
        exact .mkBool
      · cases hb
    · rcases forget_tmps l st t with e | ⟨e1, e2⟩
      · rw [e]; exact .junk
      · rw [e2, htm t e1]
        exact (h.tmps t).ext (fun _ _ => trivial) hext
  · show ((forget l st).tmps.set d (.bool b)).length = act'.tmps.size
    rw [List.length_set, forget_len, hsz]; exact h.size

end
end Go.Ev

namespace Go.Ev
open Go

/-- How a guard comes out. -/
def GuardIs (ops : Array Oper) (o : Oper) (st : St) (y : Bool) : Prop :=
  match o.guard with
  | none => y = true
  | some (j, want) => ∃ d, (ops[j]?).bind (·.dst) = some d ∧ ((∃ b, st.tmps[d]? = some (.bool b) ∧ y = (b == want)) ∨ (st.tmps[d]? = some (.tup []) ∧ y = false))

section
variable {P : Program} {R : Type} {r : R}

theorem guardE_split {ops : Array Oper} {o : Oper} {st : St} {yes no : St → Option R} (h : guardE ops o st yes no = some r) : (GuardIs ops o st true ∧ yes st = some r) ∨ (GuardIs ops o st false ∧ no st = some r) := by
  unfold guardE at h
  unfold GuardIs
  split at h
  · rename_i hg; rw [hg]; exact .inl ⟨rfl, h⟩
  · rename_i j want hg
    rw [hg]
    split at h
    · cases h
    · rename_i d hd
      split at h
      · rename_i b hb
        have hset : ∀ b', b = b' → St.set st (some d) (.bool b') = st := fun b' e => by rw [← e]; exact set_same hb
        cases want with
        | true =>
          rcases cnd_some h with ⟨hbb, h⟩ | ⟨hbb, h⟩
          · rw [hset true hbb] at h
            exact .inl ⟨⟨d, hd, .inl ⟨b, hb, by rw [hbb]; rfl⟩⟩, h⟩
          · rw [hset false hbb] at h
            exact .inr ⟨⟨d, hd, .inl ⟨b, hb, by rw [hbb]; rfl⟩⟩, h⟩
        | false =>
          rcases cnd_some h with ⟨hbb, h⟩ | ⟨hbb, h⟩
          · rw [hset true hbb] at h
            exact .inr ⟨⟨d, hd, .inl ⟨b, hb, by rw [hbb]; rfl⟩⟩, h⟩
          · rw [hset false hbb] at h
            exact .inl ⟨⟨d, hd, .inl ⟨b, hb, by rw [hbb]; rfl⟩⟩, h⟩
      · rename_i hb
        exact .inr ⟨⟨d, hd, .inr ⟨hb, rfl⟩⟩, h⟩
      · cases h
theorem GuardIs.wanted {ops : Array Oper} {o : Oper} {st : St} {y : Bool} (h : GuardIs ops o st y) {Γ : Env} {w : World} {act : Act}
    (ht : ∀ (j : Nat) b d, o.guard = some (j, b) → (ops[j]?).bind (·.dst) = some d → VRel P w Γ (st.tmps.getD d .junk) (act.tmps.getD d undef)) (hsz : st.tmps.length = act.tmps.size) : Region.wanted o (yielded ops act.tmps) = y := by
  unfold GuardIs at h
  unfold Region.wanted
  split at h
  · rename_i hg; rw [hg]; exact h.symm
  · rename_i j want hg
    rw [hg]
    obtain ⟨d, hd, h⟩ := h
    have hrel := ht j want d hg hd
    show (yielded ops act.tmps j == some want) = y
    rcases h with ⟨b, hb, rfl⟩ | ⟨hb, rfl⟩
    · have hb' : st.tmps.getD d .junk = .bool b := by rw [List.getD_eq_getElem?_getD, hb]; rfl
      rw [hb'] at hrel
      have hlt : d < act.tmps.size := by rw [← hsz]; exact (List.getElem?_eq_some_iff.1 hb).1
      have hm : act.tmps[d]? = some (.bool b) := by
        have := hrel.bool
        rw [Array.getD_eq_getD_getElem?, Array.getElem?_eq_getElem hlt] at this
        rw [Array.getElem?_eq_getElem hlt]
        simpa using this
      have hy : yielded ops act.tmps j = some b := by unfold yielded; rw [hd]; simp [hm]
      rw [hy]; rfl
    · have hb' : st.tmps.getD d .junk = .tup [] := by rw [List.getD_eq_getElem?_getD, hb]; rfl
      rw [hb'] at hrel
      obtain ⟨vs, h1, _, _⟩ := hrel
      have hlt : d < act.tmps.size := by rw [← hsz]; exact (List.getElem?_eq_some_iff.1 hb).1
      have hm : act.tmps[d]? = some (.tuple vs) := by
        rw [Array.getD_eq_getD_getElem?, Array.getElem?_eq_getElem hlt] at h1
        rw [Array.getElem?_eq_getElem hlt]
        simpa using h1
      have hy : yielded ops act.tmps j = none := by unfold yielded; rw [hd]; simp [hm]
      rw [hy]; rfl

end
end Go.Ev

namespace Go.Ev
open Go

def isSto (o : Oper) : Bool := match o.op with | .store _ _ _ => true | _ => false
/-- One operation of a region in which only stores write. -/
def TStep (P : Program) (lim : Option Nat) (may : Bool) (ops : Array Oper) (o : Oper) (st st' : St) : Prop :=
  (isSto o = true ∧ st' = st) ∨
  (isSto o = false ∧ ∃ y, GuardIs ops o st y ∧ ((y = true ∧ ∃ a obs1, SDoes P lim may o st a obs1 ∧ st' = St.set { st with obs := obs1 } o.dst a) ∨ (y = false ∧ st' = st.set o.dst (.tup []))))

section
variable {P : Program} {R : Type} {r : R}

theorem stillE_trace (T : TabOk P) (F : FnOk P) {cf : Cfg} (hS : ∀ s ∈ cf.S, Contract P s) {may : Bool} {lim : Option Nat} {ops : Array Oper} {K : St → Option R} : ∀ (l : List Oper) {st : St}, stillE P cf may lim ops l st K = some r →
    ∃ s : Nat → St, s 0 = st ∧ K (s l.length) = some r ∧ ∀ i o, l[i]? = some o → TStep P lim may ops o (s i) (s (i + 1))
  | [], st, h => ⟨fun _ => st, rfl, h, fun i o hi => by simp at hi⟩
  | o :: l, st, h => by
    have key : ∀ st1, TStep P lim may ops o st st1 → stillE P cf may lim ops l st1 K = some r → ∃ s : Nat → St, s 0 = st ∧ K (s (o :: l).length) = some r ∧ ∀ i o', (o :: l)[i]? = some o' → TStep P lim may ops o' (s i) (s (i + 1)) := fun st1 h1 h2 => by
      obtain ⟨s, g0, g1, g2⟩ := stillE_trace T F hS l h2
      refine ⟨fun i => match i with | 0 => st | i + 1 => s i, rfl, g1, fun i o' hi => ?_⟩
      cases i with
      | zero => simp at hi; subst hi; show TStep P lim may ops o st (s 0); rw [g0]; exact h1
      | succ i => exact g2 i o' (by simpa using hi)
    unfold stillE at h
    split at h
    · rename_i hop
      exact key st (.inl ⟨by simp [isSto, hop], rfl⟩) h
    · rename_i hop
      have hns : isSto o = false := by
        unfold isSto
        split
        · rename_i a b c hh; exact absurd hh (hop a b c)
        · rfl
      rcases guardE_split h with ⟨hg, hy⟩ | ⟨hg, hn⟩
      · obtain ⟨a, obs1, hK, hd⟩ := stillOp_sound (P := P) T F hS hy
        exact key _ (.inr ⟨hns, true, hg, .inl ⟨rfl, a, obs1, hd, rfl⟩⟩) hK
      · exact key _ (.inr ⟨hns, false, hg, .inr ⟨rfl, rfl⟩⟩) hn

/-- What a step leaves: things grow; a temporary that is not its own stands. -/
theorem TStep.wk {lim : Option Nat} {may : Bool} {ops : Array Oper} {o : Oper} {st st' : St} (h : TStep P lim may ops o st st') : Wk st.obs st'.obs := by
  rcases h with ⟨_, rfl⟩ | ⟨_, y, _, ⟨_, a, obs1, hd, rfl⟩ | ⟨_, rfl⟩⟩
  · exact Wk.refl _
  · rw [set_obs]; exact hd.1
  · rw [set_obs]; exact Wk.refl _
theorem TStep.tmps {lim : Option Nat} {may : Bool} {ops : Array Oper} {o : Oper} {st st' : St} (h : TStep P lim may ops o st st') {t : Tmp} (ht : isSto o = true ∨ o.dst ≠ some t) : st'.tmps.getD t .junk = st.tmps.getD t .junk := by
  rcases h with ⟨_, rfl⟩ | ⟨hs, y, _, ⟨_, a, obs1, hd, rfl⟩ | ⟨_, rfl⟩⟩
  · rfl
  · exact set_tmps (st := { st with obs := obs1 }) (ht.resolve_left (by rw [hs]; simp))
  · exact set_tmps (ht.resolve_left (by rw [hs]; simp))
theorem set_len (st : St) (dst : Option Tmp) (a : A) : (st.set dst a).tmps.length = st.tmps.length := by cases dst <;> simp [St.set]
theorem TStep.len {lim : Option Nat} {may : Bool} {ops : Array Oper} {o : Oper} {st st' : St} (h : TStep P lim may ops o st st') : st'.tmps.length = st.tmps.length := by
  rcases h with ⟨_, rfl⟩ | ⟨hs, y, _, ⟨_, a, obs1, hd, rfl⟩ | ⟨_, rfl⟩⟩
  · rfl
  · rw [set_len]
  · rw [set_len]

/-- A trace. -/
structure Tr (P : Program) (lim : Option Nat) (may : Bool) (ops : Array Oper) (s : Nat → St) : Prop where
  step : ∀ (i : Nat) o, ops[i]? = some o → TStep P lim may ops o (s i) (s (i + 1))
theorem Tr.wk {lim : Option Nat} {may : Bool} {ops : Array Oper} {s : Nat → St} (h : Tr P lim may ops s) {i : Nat} : ∀ {j : Nat}, i ≤ j → j ≤ ops.size → Wk (s i).obs (s j).obs
  | 0, hij, _ => by have : i = 0 := by omega
                    subst this; exact Wk.refl _
  | j + 1, hij, hj => by
    by_cases e : i = j + 1
    · subst e; exact Wk.refl _
    · exact (h.wk (j := j) (by omega) (by omega)).trans (h.step j ops[j] (by simp [show j < ops.size by omega])).wk
theorem Tr.len {lim : Option Nat} {may : Bool} {ops : Array Oper} {s : Nat → St} (h : Tr P lim may ops s) : ∀ {j : Nat}, j ≤ ops.size → (s j).tmps.length = (s 0).tmps.length
  | 0, _ => rfl
  | j + 1, hj => (h.step j ops[j] (by simp [show j < ops.size by omega])).len.trans (h.len (by omega))
/-- A temporary that no operation between writes. -/
theorem Tr.tmps {lim : Option Nat} {may : Bool} {ops : Array Oper} {s : Nat → St} (h : Tr P lim may ops s) {i : Nat} {t : Tmp} : ∀ {j : Nat}, i ≤ j → j ≤ ops.size → (∀ (k : Nat) o, i ≤ k → k < j → ops[k]? = some o → isSto o = true ∨ o.dst ≠ some t) →
    (s j).tmps.getD t .junk = (s i).tmps.getD t .junk
  | 0, hij, _, _ => by have : i = 0 := by omega
                       subst this; rfl
  | j + 1, hij, hj, hk => by
    by_cases e : i = j + 1
    · subst e; rfl
    · have hjo : ops[j]? = some ops[j] := by simp [show j < ops.size by omega]
      exact ((h.step j ops[j] hjo).tmps (hk j _ (by omega) (by omega) hjo)).trans (h.tmps (by omega) (by omega) fun k o h1 h2 h3 => hk k o h1 (by omega) h3)

end
end Go.Ev
