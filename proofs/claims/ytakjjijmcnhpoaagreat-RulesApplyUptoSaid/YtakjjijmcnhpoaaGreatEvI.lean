/- The evaluator E: a region whose order is open. -/
import Derived.Test.YtakjjijmcnhpoaaGreatEvH
namespace Go.Ev
open Go

section
variable {P : Program} {R : Type} {r : R}

theorem storeOb_tgt {fl : Nat} {t : TypeId} {obs : List Ob} {a v : A} {x : Nat} {ob : Ob} (h : storeOb P t fl obs a v = some (x, ob)) : x = tgtOf a ∧ x < obs.length := by
  unfold storeOb at h
  split at h
  · cases h
  · split at h
    · rename_i o path
      split at h
      · rename_i t0 a0 hob
        split at h
        · split at h
          · cases h; exact ⟨rfl, (List.getElem?_eq_some_iff.1 hob).1⟩
          · cases h
        · cases h
      · cases h
    · rename_i o i path
      split at h
      · rename_i e es n f hob
        split at h
        · split at h
          · split at h
            · cases h; exact ⟨rfl, (List.getElem?_eq_some_iff.1 hob).1⟩
            · cases h
          · cases h
        · cases h
      · cases h
    · cases h
/-- What is stored, and where ('tg': of each store), from the i-th operation on; 'seen': the stores before. -/
structure StoIs (P : Program) (fl lim : Nat) (ops : Array Oper) (st : St) (tg : Nat → Nat × Ob) (i : Nat) (l : List Oper) (seen : List (Nat × Nat)) (acc obsF : List Ob) : Prop where
  len : obsF.length = acc.length
  at_ : ∀ (k : Nat) o, l[k]? = some o → isSto o = true → ∃ t a v pre, o.op = .store t a v ∧ storeOb P t fl (st.obs.set (tg (i + k)).1 pre) (ev st a) (ev st v) = some (tg (i + k)) ∧
    ((∃ j o', j < k ∧ l[j]? = some o' ∧ isSto o' = true ∧ (tg (i + j)).1 = (tg (i + k)).1 ∧ pre = (tg (i + j)).2 ∧ ∀ m o2, j < m → m < k → l[m]? = some o2 → isSto o2 = true → (tg (i + m)).1 ≠ (tg (i + k)).1) ∨
      ((∀ m o2, m < k → l[m]? = some o2 → isSto o2 = true → (tg (i + m)).1 ≠ (tg (i + k)).1) ∧ acc[(tg (i + k)).1]? = some pre)) ∧
    (private_ ops (i + k) o = true → lim ≤ (tg (i + k)).1 ∧ ∃ t a, st.obs[(tg (i + k)).1]? = some (.var t a)) ∧ (∀ p ∈ seen, p.2 = (tg (i + k)).1 → p.1 ∈ onsOf o)
  chain : ∀ (j k : Nat) o o', j < k → l[j]? = some o → l[k]? = some o' → isSto o = true → isSto o' = true → (tg (i + j)).1 = (tg (i + k)).1 → i + j ∈ onsOf o'
  last : ∀ (k : Nat) o, l[k]? = some o → isSto o = true → (∀ m o2, k < m → l[m]? = some o2 → isSto o2 = true → (tg (i + m)).1 ≠ (tg (i + k)).1) → (tg (i + k)).1 < acc.length → obsF[(tg (i + k)).1]? = some (tg (i + k)).2
  other : ∀ y, (∀ (k : Nat) o, l[k]? = some o → isSto o = true → (tg (i + k)).1 ≠ y) → obsF[y]? = acc[y]?
theorem storesE_spec {fl lim : Nat} {ops : Array Oper} {st : St} {K : List Ob → Option R} : ∀ (l : List Oper) (i : Nat) (seen : List (Nat × Nat)) (acc : List Ob), acc.length = st.obs.length → storesE P fl lim ops st i l seen acc K = some r →
    ∃ obsF tg, K obsF = some r ∧ StoIs P fl lim ops st tg i l seen acc obsF
  | [], i, seen, acc, _, h => ⟨acc, fun _ => (0, .dead), h, rfl, fun k o h => by simp at h, fun j k o o' _ h => by simp at h, fun k o h => by simp at h, fun y _ => rfl⟩
  | o :: l, i, seen, acc, hal, h => by
    have sh : ∀ {k : Nat}, i + 1 + k = i + (k + 1) := by intro k; omega
    unfold storesE at h
    split at h
    · rename_i t a v hop
      have hso : isSto o = true := by simp [isSto, hop]
      split at h
      · rename_i x ob hst
        split at h
        · cases h
        · rename_i hc
          simp only [Bool.or_eq_true, not_or, Bool.and_eq_true, not_and, Bool.not_eq_true, Bool.not_eq_false', List.all_eq_true, bne_iff_ne, List.contains_iff_mem] at hc
          obtain ⟨hc1, hc2⟩ := hc
          obtain ⟨obsF, tg, hK, IH⟩ := storesE_spec l (i + 1) ((i, x) :: seen) (acc.set x ob) (by simp [hal]) h
          obtain ⟨hx, hxlt⟩ := storeOb_tgt hst
          have hwl : (withTop st.obs acc (tgtOf (ev st a))).length = st.obs.length := by unfold withTop; split <;> simp
          rw [hwl] at hxlt
          -- the family with this store
          refine ⟨obsF, fun k => if k = i then (x, ob) else tg k, hK, by rw [IH.len, List.length_set], ?_, ?_, ?_, ?_⟩
          · intro k o' hk ho'
            cases k with
            | zero =>
              simp at hk; subst hk
              simp only [Nat.add_zero, if_true]
              have hacc : acc[x]? = some (acc[x]'(by omega)) := List.getElem?_eq_getElem _
              refine ⟨t, a, v, acc[x]'(by omega), hop, ?_, .inr ⟨fun m o2 hm => by omega, hacc⟩, fun hp => ?_, fun p hp he => ?_⟩
              · have : withTop st.obs acc (tgtOf (ev st a)) = st.obs.set x (acc[x]'(by omega)) := by unfold withTop; rw [← hx, hacc]
                rw [← this]; exact hst
              · have := hc2 hp
                simp only [Bool.not_eq_true', Bool.not_eq_false, Bool.and_eq_true, decide_eq_true_eq] at this
                refine ⟨this.1, ?_⟩
                have h2 := this.2
                unfold isVar at h2
                split at h2
                · rename_i t' a' he; exact ⟨_, _, he⟩
                · cases h2
              · rcases hc1 p hp with h1 | h1
                · exact absurd he h1
                · exact h1
            | succ k =>
              obtain ⟨t', a', v', pre, e1, e2, e3, e4, e5⟩ := IH.at_ k o' (by simpa using hk) ho'
              have hne : ∀ m, (i + (m + 1) = i) ↔ False := fun m => ⟨fun h => by omega, False.elim⟩
              simp only [hne, if_false]
              simp only [sh] at e2 e3 e4 e5
              refine ⟨t', a', v', pre, e1, e2, ?_, e4, fun p hp => e5 p (by simp [hp])⟩
              rcases e3 with ⟨j, o2, f1, f2, f3, f4, f5, f6⟩ | ⟨f1, f2⟩
              · refine .inl ⟨j + 1, o2, by omega, by simpa using f2, f3, by simp only [hne, if_false]; exact f4, by simp only [hne, if_false]; exact f5, fun m o3 h1 h2 h3 h4 => ?_⟩
                cases m with
                | zero => omega
                | succ m => simp only [hne, if_false]; exact f6 m o3 (by omega) (by omega) (by simpa using h3) h4
              · by_cases hxe : x = (tg (i + (k + 1))).1
                · refine .inl ⟨0, o, by omega, rfl, hso, by simp [hxe], ?_, fun m o3 h1 h2 h3 h4 => ?_⟩
                  · simp only [Nat.add_zero, if_true]
                    rw [← hxe, List.getElem?_set_self (by omega)] at f2
                    cases f2; rfl
                  · cases m with
                    | zero => omega
                    | succ m => simp only [hne, if_false]; exact f1 m o3 (by omega) (by simpa using h3) h4
                · refine .inr ⟨fun m o3 h2 h3 h4 => ?_, ?_⟩
                  · cases m with
                    | zero => simp only [Nat.add_zero, if_true]; exact hxe
                    | succ m => simp only [hne, if_false]; exact f1 m o3 (by omega) (by simpa using h3) h4
                  · rw [List.getElem?_set_ne hxe] at f2; exact f2
          · intro j k o1 o2 hjk h1 h2 hs1 hs2 he
            have hne : ∀ m, (i + (m + 1) = i) ↔ False := fun m => ⟨fun h => by omega, False.elim⟩
            cases k with
            | zero => omega
            | succ k =>
              cases j with
              | zero =>
                simp only [Nat.add_zero, if_true, hne, if_false] at he
                obtain ⟨_, _, _, _, _, _, _, _, e5⟩ := IH.at_ k o2 (by simpa using h2) hs2
                simp only [sh] at e5
                exact e5 (i, x) (by simp) he
              | succ j =>
                simp only [hne, if_false] at he
                have := IH.chain j k o1 o2 (by omega) (by simpa using h1) (by simpa using h2) hs1 hs2 (by simp only [sh]; exact he)
                rwa [sh] at this
          · intro k o' hk ho' hl hlt
            have hne : ∀ m, (i + (m + 1) = i) ↔ False := fun m => ⟨fun h => by omega, False.elim⟩
            cases k with
            | zero =>
              simp only [Nat.add_zero, if_true] at hl hlt ⊢
              rw [IH.other x fun k o2 hk2 ho2 he => hl (k + 1) o2 (by omega) (by simpa using hk2) ho2 (by simp only [hne, if_false]; rw [← sh]; exact he)]
              exact List.getElem?_set_self hlt
            | succ k =>
              simp only [hne, if_false] at hl hlt ⊢
              have := IH.last k o' (by simpa using hk) ho' (fun m o2 h1 h2 h3 => by
                have := hl (m + 1) o2 (by omega) (by simpa using h2) h3
                simp only [hne, if_false] at this
                simp only [sh]; exact this) (by simp only [sh, List.length_set]; exact hlt)
              simpa only [sh] using this
          · intro y hy
            have hne : ∀ m, (i + (m + 1) = i) ↔ False := fun m => ⟨fun h => by omega, False.elim⟩
            rw [IH.other y fun k o2 hk2 ho2 => by
              have := hy (k + 1) o2 (by simpa using hk2) ho2
              simp only [hne, if_false] at this
              simp only [sh]; exact this]
            have := hy 0 o (by simp) hso
            simp only [Nat.add_zero, if_true] at this
            exact List.getElem?_set_ne this
      · cases h
    · rename_i hop
      have hso : isSto o = false := by
        unfold isSto
        split
        · rename_i t a v hh; exact absurd hh (hop t a v)
        · rfl
      obtain ⟨obsF, tg, hK, IH⟩ := storesE_spec l (i + 1) seen acc hal h
      refine ⟨obsF, tg, hK, IH.len, ?_, ?_, ?_, ?_⟩
      · intro k o' hk ho'
        cases k with
        | zero => simp at hk; subst hk; rw [hso] at ho'; cases ho'
        | succ k =>
          obtain ⟨t', a', v', pre, e1, e2, e3, e4, e5⟩ := IH.at_ k o' (by simpa using hk) ho'
          simp only [sh] at e2 e3 e4 e5
          refine ⟨t', a', v', pre, e1, e2, ?_, e4, e5⟩
          rcases e3 with ⟨j, o2, f1, f2, f3, f4, f5, f6⟩ | ⟨f1, f2⟩
          · refine .inl ⟨j + 1, o2, by omega, by simpa using f2, f3, f4, f5, fun m o3 h1 h2 h3 h4 => ?_⟩
            cases m with
            | zero => omega
            | succ m => exact f6 m o3 (by omega) (by omega) (by simpa using h3) h4
          · refine .inr ⟨fun m o3 h2 h3 h4 => ?_, f2⟩
            cases m with
            | zero => simp at h3; subst h3; rw [hso] at h4; cases h4
            | succ m => exact f1 m o3 (by omega) (by simpa using h3) h4
      · intro j k o1 o2 hjk h1 h2 hs1 hs2 he
        cases k with
        | zero => omega
        | succ k =>
          cases j with
          | zero => simp at h1; subst h1; rw [hso] at hs1; cases hs1
          | succ j =>
            have := IH.chain j k o1 o2 (by omega) (by simpa using h1) (by simpa using h2) hs1 hs2 (by simp only [sh]; exact he)
            rwa [sh] at this
      · intro k o' hk ho' hl hlt
        cases k with
        | zero => simp at hk; subst hk; rw [hso] at ho'; cases ho'
        | succ k =>
          have := IH.last k o' (by simpa using hk) ho' (fun m o2 h1 h2 h3 => by
            have := hl (m + 1) o2 (by omega) (by simpa using h2) h3
            simp only [sh]; exact this) (by simp only [sh]; exact hlt)
          simpa only [sh] using this
      · intro y hy
        exact IH.other y fun k o2 hk2 ho2 => by
          have := hy (k + 1) o2 (by simpa using hk2) ho2
          simp only [sh]; exact this

/-- What such a region keeps to. -/
structure Draw (ops : Array Oper) : Prop where
  kind : ∀ (i : Nat) o, ops[i]? = some o → isStill o = true ∨ isStore o = true ∨ (appOf o).isSome = true
  back : ∀ (i : Nat) o, ops[i]? = some o → ∀ j ∈ onsOf o, j < i
  pair : ∀ (j i : Nat) p o, j < i → ops[j]? = some p → ops[i]? = some o → pairOk ops j i p o = true ∧ (isStore p && !private_ ops j p && isRd o) = false
theorem Draw.of {ops : Array Oper} (h : drawOk ops = true) : Draw ops := by
  unfold drawOk at h
  rw [List.all_eq_true] at h
  have key : ∀ (i : Nat) o, ops[i]? = some o → (isStill o || isStore o || (appOf o).isSome) = true ∧ (onsOf o).all (fun j => decide (j < i)) = true ∧ ((List.range i).all fun j => match ops[j]? with
      | none => false
      | some p => pairOk ops j i p o && !(isStore p && !private_ ops j p && isRd o)) = true := fun i o ho => by
    have := h i (List.mem_range.2 (Array.getElem?_eq_some_iff.1 ho).1)
    rw [ho] at this
    simp only [Bool.and_eq_true] at this
    exact ⟨this.1.1, this.1.2, this.2⟩
  refine ⟨fun i o ho => by
    have := (key i o ho).1
    simp only [Bool.or_eq_true] at this
    rcases this with (h | h) | h
    · exact .inl h
    · exact .inr (.inl h)
    · exact .inr (.inr h), fun i o ho j hj => ?_, fun j i p o hji hp ho => ?_⟩
  · have := List.all_eq_true.1 (key i o ho).2.1 j hj
    simpa using this
  · have := List.all_eq_true.1 (key i o ho).2.2 j (List.mem_range.2 hji)
    rw [hp] at this
    simp only [Bool.and_eq_true, Bool.not_eq_true'] at this
    exact this
theorem appOf_call {o : Oper} {t : TypeId} {x : Tmp} {y : Operand} (h : appOf o = some (t, x, y)) : o.guard = none ∧ ∃ c, o.op = .call c ∧ c.callee = .builtin .append ∧ c.argTypes.toList = [t, t] ∧ c.args.toList = [.tmp x, y] := by
  unfold appOf at h
  split at h
  · rename_i c hg hop
    split at h
    · rename_i t0 t1 x0 y0 h1 h2 h3
      split at h
      · rename_i he
        have he : t0 = t1 := by simpa using he
        cases h
        exact ⟨hg, c, hop, h1, by rw [h2, he], h3⟩
      · cases h
    · cases h
  · cases h
theorem Draw.sto {ops : Array Oper} (D : Draw ops) {i : Nat} {o : Oper} (ho : ops[i]? = some o) (h : isSto o = true) : isStore o = true ∧ o.guard = none ∧ o.dst = none := by
  have : isStore o = true := by
    unfold isSto at h
    split at h
    · rename_i hop
      rcases D.kind i o ho with h1 | h1 | h1
      · simp [isStill, hop] at h1
      · exact h1
      · obtain ⟨⟨t, x, y⟩, h2⟩ := Option.isSome_iff_exists.1 h1
        obtain ⟨_, c, h3, _⟩ := appOf_call h2
        rw [hop] at h3; cases h3
    · cases h
  refine ⟨this, ?_⟩
  unfold isStore at this
  split at this
  · simpa using this
  · cases this
theorem Draw.spec {ops : Array Oper} (D : Draw ops) {j i : Nat} {p o : Oper} (hji : j < i) (hp : ops[j]? = some p) (ho : ops[i]? = some o) :
    (j ∈ onsOf o ∨ ((∀ d, p.dst = some d → d ∉ readsOf ops o) ∧ (∀ d, o.dst = some d → d ∉ readsOf ops p) ∧ (isStore o && !private_ ops i o && isRd p) = false)) ∧
    (∀ d, p.dst = some d → o.dst ≠ some d) ∧ (isStore p = true → ∀ d, o.dst = some d → d ∉ readsOf ops p) ∧ ((appOf p).isSome = true → ∀ d, o.dst = some d → d ∉ readsOf ops p) ∧
    (∀ t x y t' x' y', appOf p = some (t, x, y) → appOf o = some (t', x', y') → p.dst = some x') := by
  have := (D.pair j i p o hji hp ho).1
  unfold pairOk at this
  simp only [Bool.and_eq_true, Bool.or_eq_true, Bool.not_eq_true', List.contains_iff_mem] at this
  obtain ⟨⟨⟨h1, h2⟩, h3⟩, h4⟩ := this
  refine ⟨h1.imp id fun h => ⟨fun d hd hm => ?_, fun d hd hm => ?_, h.2⟩, fun d hd he => ?_, fun hs d hd hm => ?_, fun hs d hd hm => ?_, fun t x y t' x' y' e1 e2 => ?_⟩
  · have := h.1.1; rw [hd] at this; simp [hm] at this
  · have := h.1.2; rw [hd] at this; simp [hm] at this
  · rw [hd] at h2; simp [he] at h2
  · rw [hs, hd] at h3; simp [hm] at h3
  · rw [hs, hd] at h3; simp [hm] at h3
  · rw [e1, e2] at h4
    simp only [Option.isNone_some, Bool.false_eq_true, false_or] at h4
    cases hd : p.dst with
    | none => rw [hd] at h4; simp at h4
    | some d => rw [hd] at h4; simp at h4; rw [h4]
/-- Of appends there are two at the most, and the second one is onto what the first one gives. -/
theorem Draw.two {ops : Array Oper} (D : Draw ops) {i j k : Nat} {o p q : Oper} (hi : ops[i]? = some o) (hj : ops[j]? = some p) (hk : ops[k]? = some q) (ai : (appOf o).isSome = true) (aj : (appOf p).isSome = true) (ak : (appOf q).isSome = true)
    (hij : i ≠ j) (hjk : j ≠ k) (hik : i ≠ k) : False := by
  have key : ∀ {i j k : Nat} {o p q : Oper}, ops[i]? = some o → ops[j]? = some p → ops[k]? = some q → (appOf o).isSome = true → (appOf p).isSome = true → (appOf q).isSome = true → i < j → j < k → False := fun {i j k o p q} hi hj hk ai aj ak hij hjk => by
    obtain ⟨⟨t, x, y⟩, e1⟩ := Option.isSome_iff_exists.1 ai
    obtain ⟨⟨t', x', y'⟩, e2⟩ := Option.isSome_iff_exists.1 aj
    obtain ⟨⟨t'', x'', y''⟩, e3⟩ := Option.isSome_iff_exists.1 ak
    have h1 := (D.spec (by omega) hi hk).2.2.2.2 _ _ _ _ _ _ e1 e3
    have h2 := (D.spec hjk hj hk).2.2.2.2 _ _ _ _ _ _ e2 e3
    exact (D.spec hij hi hj).2.1 _ h1 h2
  rcases Nat.lt_or_gt_of_ne hij with h1 | h1 <;> rcases Nat.lt_or_gt_of_ne hjk with h2 | h2 <;> rcases Nat.lt_or_gt_of_ne hik with h3 | h3
  · exact key hi hj hk ai aj ak h1 h2
  · omega
  · exact key hi hk hj ai ak aj h3 h2
  · exact key hk hi hj ak ai aj h3 h1
  · exact key hj hi hk aj ai ak h1 h3
  · exact key hj hk hi aj ak ai h2 h3
  · omega
  · exact key hk hj hi ak aj ai h2 h1

theorem listed_set {listed : Array Bool} {i k : Nat} (hi : i < listed.size) : (listed.setIfInBounds i true).getD k false = true ↔ k = i ∨ listed.getD k false = true := by
  by_cases e : i = k
  · subst e
    simp [hi]
  · rw [getD_set_ne false e]
    exact ⟨.inr, fun h => h.resolve_left (fun h => e h.symm)⟩

/-- Some operations of a region are done. -/
structure OInv (P : Program) (fl lim : Nat) (ops : Array Oper) (s : Nat → St) (tg : Nat → Nat × Ob) (Γ0 : Env) (w0 : World) (a0 : Act) (listed : Array Bool) (Γ : Env) (w : World) (act : Act) : Prop where
  lsz : listed.size = ops.size
  cl : ∀ (i : Nat) o, listed.getD i false = true → ops[i]? = some o → ∀ j ∈ onsOf o, listed.getD j false = true
  mem : Mem P w Γ (fun x => ∀ (i : Nat) o, listed.getD i false = true → ops[i]? = some o → isSto o = true → (tg i).1 ≠ x) (s ops.size).obs
  free : Free fl Γ (s ops.size).obs
  dom : ∀ x, Γ.β x ≠ none → x < lim ∨ ∃ i, i < ops.size ∧ listed.getD i false = true ∧ (s i).obs.length ≤ x ∧ x < (s (i + 1)).obs.length
  done : ∀ (i : Nat) o, listed.getD i false = true → ops[i]? = some o → isSto o = true → (∀ (k : Nat) o', i < k → listed.getD k false = true → ops[k]? = some o' → isSto o' = true → (tg k).1 ≠ (tg i).1) →
    ∃ p, Γ.β (tg i).1 = some p ∧ Shape (tg i).2 p ∧ Content P w Γ (tg i).2 p ∧ ∃ ob0, (s ops.size).obs[(tg i).1]? = some ob0 ∧ ob0.rw = true
  told : ∀ (i : Nat) o t, listed.getD i false = true → ops[i]? = some o → isSto o = false → o.dst = some t → VRel P w Γ ((s ops.size).tmps.getD t .junk) (act.tmps.getD t undef)
  rest : ∀ t, (∀ (i : Nat) o, listed.getD i false = true → ops[i]? = some o → isSto o = false → o.dst ≠ some t) → VRel P w Γ ((s 0).tmps.getD t .junk) (act.tmps.getD t undef)
  size : act.tmps.size = (s 0).tmps.length
  ndef : act.defers = []
  step : ∀ base, Step base Γ0 Γ w0 w
  old : (∀ (i : Nat) o, ops[i]? = some o → isSto o = false) → ∀ b, b < w0.heap.size → w.heap[b]? = w0.heap[b]?
  tm : ∀ t, (∀ (i : Nat) o, ops[i]? = some o → o.dst ≠ some t) → act.tmps.getD t undef = a0.tmps.getD t undef

variable {fl lim : Nat} {may : Bool} {ops : Array Oper} {s : Nat → St} {tg : Nat → Nat × Ob} {Γ0 Γ : Env} {w0 w : World} {listed : Array Bool} {act a0 : Act}

theorem Tr.obs_le (tr : Tr P (some lim) may ops s) {i j : Nat} (hij : i ≤ j) (hj : j ≤ ops.size) : (s i).obs.length ≤ (s j).obs.length := (tr.wk hij hj).le

/-- What an operation reads that is ready. -/
theorem OInv.reads (D : Draw ops) (tr : Tr P (some lim) may ops s) (h : OInv P fl lim ops s tg Γ0 w0 a0 listed Γ w act) {i : Nat} {o : Oper} (ho : ops[i]? = some o) (hun : listed.getD i false = false) (hon : ∀ j ∈ onsOf o, listed.getD j false = true)
    {m : Nat} (him : i ≤ m) (hm : m ≤ ops.size) (hms : m = i ∨ isSto o = true) {t : Tmp} (ht : t ∈ readsOf ops o) : VRel P w Γ ((s m).tmps.getD t .junk) (act.tmps.getD t undef) := by
  by_cases hex : ∃ (j : Nat) (p : Oper), listed.getD j false = true ∧ ops[j]? = some p ∧ isSto p = false ∧ p.dst = some t
  · obtain ⟨j, p, hj, hp, hps, hpd⟩ := hex
    have hne : j ≠ i := by rintro rfl; rw [hj] at hun; cases hun
    have hlt : j < i := by
      rcases Nat.lt_or_ge j i with h1 | h1
      · exact h1
      · rcases (D.spec (j := i) (i := j) (by omega) ho hp).1 with h2 | ⟨_, h2, _⟩
        · rw [h.cl j p hj hp i h2] at hun; cases hun
        · exact absurd ht (h2 t hpd)
    have := h.told j p t hj hp hps hpd
    rw [tr.tmps (i := m) (j := ops.size) hm (Nat.le_refl _) fun k q h1 h2 h3 => .inr ((D.spec (j := j) (i := k) (by omega) hp h3).2.1 t hpd)] at this
    exact this
  · have hex' : ∀ (j : Nat) (p : Oper), listed.getD j false = true → ops[j]? = some p → isSto p = false → p.dst ≠ some t := fun j p h1 h2 h3 h4 => hex ⟨j, p, h1, h2, h3, h4⟩
    rw [tr.tmps (i := 0) (j := m) (Nat.zero_le _) hm fun k q _ h2 h3 => ?_]
    · exact h.rest t hex'
    · cases hq : isSto q with
      | true => exact .inl rfl
      | false =>
        refine .inr fun hd => ?_
        rcases Nat.lt_trichotomy k i with h4 | h4 | h4
        · rcases (D.spec h4 h3 ho).1 with h5 | ⟨h5, _⟩
          · exact hex' k q (hon k h5) h3 hq hd
          · exact h5 t hd ht
        · subst h4
          rw [ho] at h3; cases h3
          rcases hms with rfl | h5
          · omega
          · rw [h5] at hq; cases hq
        · rcases hms with rfl | h5
          · omega
          · exact (D.spec h4 ho h3).2.2.1 (D.sto ho h5).1 t hd ht
theorem OInv.opnds (D : Draw ops) (tr : Tr P (some lim) may ops s) (h : OInv P fl lim ops s tg Γ0 w0 a0 listed Γ w act) {i : Nat} {o : Oper} (ho : ops[i]? = some o) (hun : listed.getD i false = false) (hon : ∀ j ∈ onsOf o, listed.getD j false = true)
    {m : Nat} (him : i ≤ m) (hm : m ≤ ops.size) (hms : m = i ∨ isSto o = true) {x : Operand} (hx : x ∈ o.op.operands) : VRel P w Γ (ev (s m) x) (act.eval x) := by
  cases x with
  | tmp t => exact h.reads D tr ho hun hon him hm hms (List.mem_append_left _ (List.mem_filterMap.2 ⟨.tmp t, by simpa using hx, rfl⟩))
  | const v => exact ofConst_rel v
  | func f => exact VRel.func f
  | global g => exact .junk

/-- What may happen beside the things of a region: all that is known of them stands. -/
structure Calm (P : Program) (fl : Nat) (Γ0 Γ Γ' : Env) (w0 w w' : World) (cv : Nat → Prop) (obs : List Ob) (lo hi : Nat) : Prop where
  ext : Ext (fun _ => True) w w' Γ Γ'
  mem : Mem P w' Γ' cv obs
  free : Free fl Γ obs → Free fl Γ' obs
  keep : ∀ o p, Γ.β o = some p → Γ'.β o = some p
  dom : ∀ o, Γ'.β o ≠ none → Γ.β o ≠ none ∨ (lo ≤ o ∧ o < hi)
  same : ∀ o p b, Γ.β o = some p → p.block = some b → w'.heap[b]? = w.heap[b]?
  step : ∀ base, Step base Γ0 Γ' w0 w'
  old : ∀ b, b < w0.heap.size → w'.heap[b]? = w.heap[b]?
/-- One more is done that writes nothing known. -/
theorem OInv.calm (D : Draw ops) (tr : Tr P (some lim) may ops s) (h : OInv P fl lim ops s tg Γ0 w0 a0 listed Γ w act) {i : Nat} {o : Oper} (ho : ops[i]? = some o) (hst : isSto o = false) (hun : listed.getD i false = false) (hon : ∀ j ∈ onsOf o, listed.getD j false = true)
    {a : A} {v : Value} {Γ' : Env} {w' : World} (hs : (s (i + 1)).tmps = ((s i).set o.dst a).tmps) (hv : VRel P w' Γ' a v)
    (hg : Calm P fl Γ0 Γ Γ' w0 w w' (fun x => ∀ (i : Nat) o, listed.getD i false = true → ops[i]? = some o → isSto o = true → (tg i).1 ≠ x) (s ops.size).obs (s i).obs.length (s (i + 1)).obs.length) :
    OInv P fl lim ops s tg Γ0 w0 a0 (listed.setIfInBounds i true) Γ' w' (act.put o.dst v) := by
  have hi : i < ops.size := (Array.getElem?_eq_some_iff.1 ho).1
  have hls : ∀ {k : Nat}, (listed.setIfInBounds i true).getD k false = true ↔ k = i ∨ listed.getD k false = true := listed_set (by rw [h.lsz]; exact hi)
  have hlen : (s i).tmps.length = act.tmps.size := by rw [tr.len (Nat.le_of_lt hi), h.size]
  refine ⟨by simp [h.lsz], fun k p hk hp j hj => ?_, hg.mem.cv fun x _ hx k p hk hp => hx k p (hls.2 (.inr hk)) hp, hg.free h.free, fun x hx => ?_, fun k p hk hp hsx hlast => ?_, fun k p t hk hp hps hpd => ?_, fun t ht => ?_, ?_, ?_, hg.step, fun hn b hb => (hg.old b hb).trans (h.old hn b hb), fun t ht => (put_tmps (ht i o ho)).trans (h.tm t ht)⟩
  · rcases hls.1 hk with rfl | hk'
    · rw [ho] at hp; cases hp
      exact hls.2 (.inr (hon j hj))
    · exact hls.2 (.inr (h.cl k p hk' hp j hj))
  · rcases hg.dom x hx with h1 | h1
    · rcases h.dom x h1 with h2 | ⟨k, h2, h3, h4⟩
      · exact .inl h2
      · exact .inr ⟨k, h2, hls.2 (.inr h3), h4⟩
    · exact .inr ⟨i, hi, hls.2 (.inl rfl), h1⟩
  · rcases hls.1 hk with rfl | hk'
    · rw [ho] at hp; cases hp
      rw [hst] at hsx; cases hsx
    · obtain ⟨p', h1, h2, h3, h4⟩ := h.done k p hk' hp hsx fun m o' hm hl => hlast m o' hm (hls.2 (.inr hl))
      obtain ⟨_, _, _, hbk, _⟩ := h.mem.ob _ p' h1
      exact ⟨p', hg.keep _ p' h1, h2, h3.same (fun b hb => hg.same _ p' b h1 hb) ⟨hg.ext.fz, hg.ext.fzs, fun o p _ hp => hg.keep o p hp⟩, h4⟩
  · rcases hls.1 hk with rfl | hk'
    · rw [ho] at hp; cases hp
      rw [tr.tmps (i := k + 1) (j := ops.size) hi (Nat.le_refl _) fun j q h1 h2 h3 => .inr ((D.spec (j := k) (i := j) (by omega) ho h3).2.1 t hpd), hs, hpd]
      show VRel P w' Γ' (((s k).tmps.set t a).getD t .junk) _
      rw [set_getD, put_getD, hlen]
      split
      · exact hv
      · rename_i hn
        have hn : ¬ t < act.tmps.size := fun h => hn ⟨rfl, h⟩
        rw [List.getD_eq_getElem?_getD, List.getElem?_eq_none (by omega)]
        exact .junk
    · have hne : o.dst ≠ some t := fun hd => by
        have hki : k ≠ i := by rintro rfl; rw [hk'] at hun; cases hun
        rcases Nat.lt_or_gt_of_ne hki with h1 | h1
        · exact (D.spec h1 hp ho).2.1 t hpd hd
        · exact (D.spec h1 ho hp).2.1 t hd hpd
      rw [put_tmps hne]
      exact (h.told k p t hk' hp hps hpd).ext (fun _ _ => trivial) hg.ext
  · have hne : o.dst ≠ some t := ht i o (hls.2 (.inl rfl)) ho hst
    rw [put_tmps hne]
    exact (h.rest t fun k p hk => ht k p (hls.2 (.inr hk))).ext (fun _ _ => trivial) hg.ext
  · rw [← h.size]; cases o.dst <;> simp [Act.put]
  · cases hd : o.dst with
    | none => exact h.ndef
    | some d => exact h.ndef

/-- One more is done that writes nothing. -/
theorem OInv.grow (D : Draw ops) (tr : Tr P (some lim) may ops s) (h : OInv P fl lim ops s tg Γ0 w0 a0 listed Γ w act) {i : Nat} {o : Oper} (ho : ops[i]? = some o) (hst : isSto o = false) (hun : listed.getD i false = false) (hon : ∀ j ∈ onsOf o, listed.getD j false = true)
    {a : A} {v : Value} {Γ' : Env} {w' : World} (hs : (s (i + 1)).tmps = ((s i).set o.dst a).tmps) (hv : VRel P w' Γ' a v)
    (hg : Grow P Γ Γ' w w' (fun x => ∀ (i : Nat) o, listed.getD i false = true → ops[i]? = some o → isSto o = true → (tg i).1 ≠ x) (s ops.size).obs (s i).obs.length (s (i + 1)).obs.length) :
    OInv P fl lim ops s tg Γ0 w0 a0 (listed.setIfInBounds i true) Γ' w' (act.put o.dst v) :=
  h.calm D tr ho hst hun hon hs hv ⟨hg.ext, hg.mem, hg.free fl, hg.keep, hg.dom, fun o p b hp hb => by
    obtain ⟨_, _, _, hbk, _⟩ := h.mem.ob o p hp
    exact hg.old b (hbk.lt hb), fun base => (h.step base).trans (hg.step base), fun b hb => hg.old b (Nat.lt_of_lt_of_le hb (h.step 0).size)⟩

/-- What is stored, and where: known of all of a region. -/
structure Stores (P : Program) (fl lim : Nat) (ops : Array Oper) (st : St) (tg : Nat → Nat × Ob) (obsF : List Ob) : Prop where
  len : obsF.length = st.obs.length
  at_ : ∀ (i : Nat) o, ops[i]? = some o → isSto o = true → ∃ t a v pre, o.op = .store t a v ∧ storeOb P t fl (st.obs.set (tg i).1 pre) (ev st a) (ev st v) = some (tg i) ∧
    ((∃ j o', j < i ∧ ops[j]? = some o' ∧ isSto o' = true ∧ (tg j).1 = (tg i).1 ∧ pre = (tg j).2 ∧ ∀ m o2, j < m → m < i → ops[m]? = some o2 → isSto o2 = true → (tg m).1 ≠ (tg i).1) ∨
      ((∀ m o2, m < i → ops[m]? = some o2 → isSto o2 = true → (tg m).1 ≠ (tg i).1) ∧ st.obs[(tg i).1]? = some pre)) ∧
    (private_ ops i o = true → lim ≤ (tg i).1 ∧ ∃ t a, st.obs[(tg i).1]? = some (.var t a))
  chain : ∀ (j k : Nat) o o', j < k → ops[j]? = some o → ops[k]? = some o' → isSto o = true → isSto o' = true → (tg j).1 = (tg k).1 → j ∈ onsOf o'
  last : ∀ (k : Nat) o, ops[k]? = some o → isSto o = true → (∀ m o2, k < m → ops[m]? = some o2 → isSto o2 = true → (tg m).1 ≠ (tg k).1) → (tg k).1 < st.obs.length → obsF[(tg k).1]? = some (tg k).2
  other : ∀ y, (∀ (k : Nat) o, ops[k]? = some o → isSto o = true → (tg k).1 ≠ y) → obsF[y]? = st.obs[y]?
theorem Stores.of {st : St} {obsF : List Ob} (h : StoIs P fl lim ops st tg 0 ops.toList [] st.obs obsF) : Stores P fl lim ops st tg obsF := by
  have e : ∀ {i : Nat} {o : Oper}, ops[i]? = some o → ops.toList[i]? = some o := fun h => by simpa using h
  have e' : ∀ {i : Nat} {o : Oper}, ops.toList[i]? = some o → ops[i]? = some o := fun h => by simpa using h
  refine ⟨h.len, fun i o ho hs => ?_, fun j k o o' hjk h1 h2 h3 h4 h5 => ?_, fun k o hk ho hl hlt => ?_, fun y hy => h.other y fun k o hk ho => by rw [Nat.zero_add]; exact hy k o (e' hk) ho⟩
  · obtain ⟨t, a, v, pre, h1, h2, h3, h4, _⟩ := h.at_ i o (e ho) hs
    simp only [Nat.zero_add] at h2 h3 h4
    refine ⟨t, a, v, pre, h1, h2, ?_, h4⟩
    rcases h3 with ⟨j, o', f1, f2, f3, f4, f5, f6⟩ | ⟨f1, f2⟩
    · exact .inl ⟨j, o', f1, e' f2, f3, f4, f5, fun m o2 g1 g2 g3 => f6 m o2 g1 g2 (e g3)⟩
    · exact .inr ⟨fun m o2 g1 g2 => f1 m o2 g1 (e g2), f2⟩
  · have := h.chain j k o o' hjk (e h1) (e h2) h3 h4 (by simpa only [Nat.zero_add] using h5)
    simpa using this
  · have := h.last k o (e hk) ho (fun m o2 g1 g2 g3 => by have := hl m o2 g1 (e' g2) g3; simpa only [Nat.zero_add] using this) (by simpa only [Nat.zero_add] using hlt)
    simpa only [Nat.zero_add] using this

theorem Mem.put {w : World} {Γ : Env} {cv : Nat → Prop} {obs : List Ob} (h : Mem P w Γ cv obs) {x : Nat} {ob : Ob} (hx : ∀ p, Γ.β x = some p → Shape ob p ∧ Content P w Γ ob p) : Mem P w Γ (fun o => cv o ∨ o = x) (obs.set x ob) := by
  refine ⟨fun o p hp => ?_, h.inj, h.fzlt⟩
  obtain ⟨ob', h1, h2, h3, h4⟩ := h.ob o p hp
  by_cases e : o = x
  · subst e
    obtain ⟨g1, g2⟩ := hx p hp
    exact ⟨ob, List.getElem?_set_self (h.lt hp), g1, h3, fun _ => g2⟩
  · exact ⟨ob', by rw [List.getElem?_set_ne (Ne.symm e)]; exact h1, h2, h3, fun hc => h4 (hc.resolve_right e)⟩

/-- One store more. -/
theorem OInv.store (T : TabOk P) (D : Draw ops) (tr : Tr P (some lim) may ops s) {obsF : List Ob} (S : Stores P fl lim ops (s ops.size) tg obsF) (h : OInv P fl lim ops s tg Γ0 w0 a0 listed Γ w act) {i : Nat} {o : Oper} (ho : ops[i]? = some o) (hst : isSto o = true)
    (hun : listed.getD i false = false) (hon : ∀ j ∈ onsOf o, listed.getD j false = true) {N : Act → World → Prop} {Q : Exit → Act → World → Prop}
    (hN : ∀ w', OInv P fl lim ops s tg Γ0 w0 a0 (listed.setIfInBounds i true) Γ w' act → (∀ base, Step base Γ Γ w w') → N act w') : o.wp P act w N Q := by
  have hi : i < ops.size := (Array.getElem?_eq_some_iff.1 ho).1
  have hls : ∀ {k : Nat}, (listed.setIfInBounds i true).getD k false = true ↔ k = i ∨ listed.getD k false = true := listed_set (by rw [h.lsz]; exact hi)
  obtain ⟨_, _, hdst⟩ := D.sto ho hst
  obtain ⟨t, a, v, pre, hop, hsx, hpre, _⟩ := S.at_ i o ho hst
  -- of listed stores into the same thing all stand before
  have hbefore : ∀ (k : Nat) o', listed.getD k false = true → ops[k]? = some o' → isSto o' = true → (tg k).1 = (tg i).1 → k < i := fun k o' hk hk2 hk3 he => by
    rcases Nat.lt_trichotomy k i with h1 | h1 | h1
    · exact h1
    · subst h1; rw [hk] at hun; cases hun
    · have := h.cl k o' hk hk2 i (S.chain i k o o' h1 ho hk2 hst hk3 he.symm)
      rw [this] at hun; cases hun
  have hprec : (∀ p, Γ.β (tg i).1 = some p → Shape pre p ∧ Content P w Γ pre p) ∧ (pre.rw = true → ∃ ob0, (s ops.size).obs[(tg i).1]? = some ob0 ∧ ob0.rw = true) := by
    rcases hpre with ⟨j, o', f1, f2, f3, f4, f5, f6⟩ | ⟨f1, f2⟩
    · have hlj := hon j (S.chain j i o' o f1 f2 ho f3 hst f4)
      obtain ⟨p, g1, g2, g3, g4⟩ := h.done j o' hlj f2 f3 fun k o2 hk1 hk2 hk3 hk4 he => f6 k o2 hk1 (hbefore k o2 hk2 hk3 hk4 (he.trans f4)) hk3 hk4 (he.trans f4)
      rw [f4] at g1 g4
      subst f5
      exact ⟨fun p' hp' => by rw [g1] at hp'; cases hp'; exact ⟨g2, g3⟩, fun _ => g4⟩
    · refine ⟨fun p hp => ?_, fun hrw => ⟨pre, f2, hrw⟩⟩
      obtain ⟨ob, g1, g2, g3, g4⟩ := h.mem.ob _ p hp
      rw [f2] at g1; cases g1
      exact ⟨g2, g4 fun k o2 hk hk2 hk3 he => f1 k o2 (hbefore k o2 hk hk2 hk3 he) hk2 hk3 he⟩
  have hva : VRel P w Γ (ev (s ops.size) a) (act.eval a) := h.opnds D tr ho hun hon (m := ops.size) (Nat.le_of_lt hi) (Nat.le_refl _) (.inr hst) (by simp [hop, Op.operands])
  have hvv : VRel P w Γ (ev (s ops.size) v) (act.eval v) := h.opnds D tr ho hun hon (m := ops.size) (Nat.le_of_lt hi) (Nat.le_refl _) (.inr hst) (by simp [hop, Op.operands])
  have hfree : Free fl Γ ((s ops.size).obs.set (tg i).1 pre) := fun q p b ob hq hp hb hob hrw => by
    by_cases e : q = (tg i).1
    · subst e
      rw [List.getElem?_set_self (h.mem.lt hp)] at hob; cases hob
      obtain ⟨ob0, g1, g2⟩ := hprec.2 hrw
      exact h.free _ p b ob0 hq hp hb g1 g2
    · rw [List.getElem?_set_ne (Ne.symm e)] at hob
      exact h.free q p b ob hq hp hb hob hrw
  obtain ⟨p, b, w', ob0, h1, h2, h3, h4, h5, h6, h7, h8, h9, h10, h11⟩ := store_rel T (h.mem.put hprec.1) hfree (x := (tg i).1) (ob := (tg i).2) hsx (fun _ _ => .inr rfl) hva hvv
  have h10' : ∃ ob0, (s ops.size).obs[(tg i).1]? = some ob0 ∧ ob0.rw = true := by
    rw [List.getElem?_set_self (h.mem.lt h1)] at h9; cases h9
    exact hprec.2 h10
  unfold Oper.wp
  have hrun : (execOp act.eval o).run P w = .ok .skip w' := by simp [execOp, hop, h3]
  rw [hrun, Oper.upon_skip, hdst]
  refine hN w' ?_ (fun base => h4.step h5 h1 h2 base)
  have hext := h4.ext (Γ := Γ) h5
  refine ⟨by simp [h.lsz], fun k p hk hp j hj => ?_, h.mem.written h1 h2 h4 h5 h6 fun y hy => ⟨?_, fun k q hk hq => hy k q (hls.2 (.inr hk)) hq⟩, h.free, fun x hx => ?_, fun k q hk hq hsk hlast => ?_, fun k q t hk hq hqs hqd => ?_, fun t ht => ?_, h.size, h.ndef, fun base => (h.step base).trans (h4.step h5 h1 h2 base), fun hn => (by rw [hn i o ho] at hst; cases hst), h.tm⟩
  · rcases hls.1 hk with rfl | hk'
    · rw [ho] at hp; cases hp
      exact hls.2 (.inr (hon j hj))
    · exact hls.2 (.inr (h.cl k p hk' hp j hj))
  · rintro rfl
    exact hy i o (hls.2 (.inl rfl)) ho hst rfl
  · rcases h.dom x hx with h2 | ⟨k, h2, h3, h4⟩
    · exact .inl h2
    · exact .inr ⟨k, h2, hls.2 (.inr h3), h4⟩
  · rcases hls.1 hk with rfl | hk'
    · rw [ho] at hq; cases hq
      exact ⟨p, h1, h7, h8, h10'⟩
    · have hki : k ≠ i := by rintro rfl; rw [hk'] at hun; cases hun
      have hne : (tg k).1 ≠ (tg i).1 := fun e => by
        have hlt := hbefore k q hk' hq hsk e
        exact hlast i o hlt (hls.2 (.inl rfl)) ho hst e.symm
      obtain ⟨p', g1, g2, g3, g4⟩ := h.done k q hk' hq hsk fun m o' hm hl => hlast m o' hm (hls.2 (.inr hl))
      refine ⟨p', g1, g2, g3.same (fun b' hb' => h4.other b' ?_) ⟨hext.fz, hext.fzs, fun o p _ hp => hp⟩, g4⟩
      rintro rfl
      exact hne (h.mem.inj _ _ p' p _ g1 h1 hb' h2)
  · rcases hls.1 hk with rfl | hk'
    · rw [ho] at hq; cases hq
      rw [hst] at hqs; cases hqs
    · exact (h.told k q t hk' hq hqs hqd).ext (fun _ _ => trivial) hext
  · exact (h.rest t fun k q hk => ht k q (hls.2 (.inr hk))).ext (fun _ _ => trivial) hext

/-- Nothing that an operation reads is written by one that is done. -/
theorem OInv.quietRd (D : Draw ops) (tr : Tr P (some lim) may ops s) {obsF : List Ob} (S : Stores P fl lim ops (s ops.size) tg obsF) (h : OInv P fl lim ops s tg Γ0 w0 a0 listed Γ w act) {i : Nat} {o : Oper} (ho : ops[i]? = some o) (hun : listed.getD i false = false)
    (hrd : isRd o = true) {x : Nat} {ob : Ob} (hx : (s i).obs[x]? = some ob) (hlim : x < lim ∨ ∀ t a, ob ≠ .var t a) : ∀ (k : Nat) p, listed.getD k false = true → ops[k]? = some p → isSto p = true → (tg k).1 ≠ x := fun k p hk hp hps hsp => by
  have hi : i < ops.size := (Array.getElem?_eq_some_iff.1 ho).1
  obtain ⟨hps', _, _⟩ := D.sto hp hps
  have hne : k ≠ i := by rintro rfl; rw [hk] at hun; cases hun
  have hpriv : private_ ops k p = true := by
    rcases Nat.lt_or_gt_of_ne hne with h1 | h1
    · have := (D.pair k i p o h1 hp ho).2
      rw [hps', hrd] at this
      simpa using this
    · rcases (D.spec h1 ho hp).1 with h2 | ⟨_, _, h2⟩
      · rw [h.cl k p hk hp i h2] at hun; cases hun
      · rw [hps', hrd] at h2
        simpa using h2
  obtain ⟨_, _, _, _, _, _, _, e2⟩ := S.at_ k p hp hps
  obtain ⟨hge, t, a', hv'⟩ := e2 hpriv
  rw [hsp] at hge hv'
  rcases hlim with h1 | h1
  · omega
  · obtain ⟨ob3, e3, e4⟩ := tr.wk (Nat.le_of_lt hi) (Nat.le_refl _) x ob hx
    rw [hv'] at e3; cases e3
    rcases e4 with e4 | ⟨_, _, _, _, _, _, e4⟩ | ⟨_, _, _, _, _, e4⟩
    · exact h1 _ _ e4.symm
    · cases e4
    · cases e4

/-- What a first append of a chain has made, and its second one not yet used. -/
structure ChInv (P : Program) (may : Bool) (ops : Array Oper) (s : Nat → St) (n0 : Nat) (listed : Array Bool) (Γ : Env) (w : World) (act : Act) : Prop where
  ch : may = true → ∀ (i k : Nat) o p t x y e d ys t' y', listed.getD i false = true → ops[i]? = some o → Chn P ops o (s i) (s (i + 1)) t x y e d ys → litE (s i).obs e ((s i).tmps.getD x .junk) = true → ops[k]? = some p → appOf p = some (t', d, y') →
    listed.getD k false = false → Prv P n0 Γ w e (act.tmps.getD d undef) ys

theorem ChInv.keep (D : Draw ops) {n0 : Nat} (h : ChInv P may ops s n0 listed Γ w act) {m : Nat} {o : Oper} (hlm : m < listed.size) (ho : ops[m]? = some o) {Γ' : Env} {w' : World} {act' : Act} (hs : Step 0 Γ Γ' w w') (htm : ∀ t, o.dst ≠ some t → act'.tmps.getD t undef = act.tmps.getD t undef)
    (hno : may = true → appOf o = none) : ChInv P may ops s n0 (listed.setIfInBounds m true) Γ' w' act' := by
  refine ⟨fun hm i k oi p t x y e d ys t' y' hl hi hc hlit hk hp hlk => ?_⟩
  by_cases e1 : i = m
  · subst e1
    rw [ho] at hi; cases hi
    have := hc.app
    rw [hno hm] at this; cases this
  · have hl : listed.getD i false = true := ((listed_set hlm).1 hl).resolve_left e1
    have hlk' : listed.getD k false = false := by
      cases hq : listed.getD k false with
      | false => rfl
      | true => rw [(listed_set hlm).2 (.inr hq)] at hlk; cases hlk
    have hne : o.dst ≠ some d := fun hd => by
      rcases Nat.lt_or_gt_of_ne e1 with h1 | h1
      · exact (D.spec h1 hi ho).2.1 d hc.dst hd
      · exact (D.spec h1 ho hi).2.1 d hd hc.dst
    rw [htm d hne]
    exact (h.ch hm i k oi p t x y e d ys t' y' hl hi hc hlit hk hp hlk').step hs

theorem srcE_wk {a b : List Ob} (k : Wk a b) {e : TypeId} {x : A} {xs : List D} (h : srcE a e x = some xs) : srcE b e x = some xs := by
  have key : ∀ {q : Nat} {e' : TypeId} {es : List D} {n f rw : Bool}, a[q]? = some (.arr e' es n f rw) → ∃ rw', b[q]? = some (.arr e' es n f rw') := fun {q e' es n f rw} hq => by
    obtain ⟨ob, h1, h2⟩ := k _ _ hq
    rcases h2 with rfl | ⟨_, _, _, _, _, h3, rfl⟩ | ⟨_, _, _, _, h3, _⟩
    · exact ⟨_, h1⟩
    · cases h3; exact ⟨_, h1⟩
    · cases h3
  unfold srcE at h ⊢
  split at h
  · exact h
  · exact h
  · split at h
    · rename_i hq
      obtain ⟨rw', h1⟩ := key hq
      simp only [h1]; exact h
    · cases h
  · split at h
    · rename_i hq
      obtain ⟨rw', h1⟩ := key hq
      simp only [h1]; exact h
    · cases h
  · cases h
/-- An append of a chain more. -/
theorem OInv.chain (T : TabOk P) (D : Draw ops) (tr : Tr P (some lim) may ops s) {obsF : List Ob} (S : Stores P fl lim ops (s ops.size) tg obsF) (h : OInv P fl lim ops s tg Γ0 w0 a0 listed Γ w act) (hc : ChInv P may ops s w0.heap.size listed Γ w act) {i : Nat} {o : Oper} (ho : ops[i]? = some o) (hst : isSto o = false)
    (hun : listed.getD i false = false) (hon : ∀ j ∈ onsOf o, listed.getD j false = true) (hmay : may = true) {t : TypeId} {x : Tmp} {y : Operand} {e : TypeId} {d : Tmp} {ys : List Go.Ev.D} (C : Chn P ops o (s i) (s (i + 1)) t x y e d ys) {N : Act → World → Prop} {Q : Exit → Act → World → Prop}
    (hN : ∀ Γ' w' act', OInv P fl lim ops s tg Γ0 w0 a0 (listed.setIfInBounds i true) Γ' w' act' → ChInv P may ops s w0.heap.size (listed.setIfInBounds i true) Γ' w' act' → N act' w') : o.wp P act w N Q := by
  have hi : i < ops.size := (Array.getElem?_eq_some_iff.1 ho).1
  have hil : i < listed.size := by rw [h.lsz]; exact hi
  obtain ⟨_, c, hop, hcal, hty, hargs⟩ := appOf_call C.app
  have hrdx : x ∈ readsOf ops o := by
    refine List.mem_append_left _ (List.mem_filterMap.2 ⟨.tmp x, ?_, rfl⟩)
    have : Operand.tmp x ∈ c.args := by rw [← Array.mem_toList_iff, hargs]; simp
    simpa using (call_ops (o := o) hop).1 _ this
  have hy : y ∈ o.op.operands := (call_ops (o := o) hop).1 _ (by rw [← Array.mem_toList_iff, hargs]; simp)
  have hvx := h.reads D tr ho hun hon (Nat.le_refl i) (Nat.le_of_lt hi) (.inl rfl) hrdx
  have hvy := h.opnds D tr ho hun hon (Nat.le_refl i) (Nat.le_of_lt hi) (.inl rfl) hy
  have hrd : isRd o = true := by simp [isRd, hop, hcal]
  obtain ⟨q, cy, hvy2, hq0, hqs⟩ := srcE_at T h.mem (tr.wk (Nat.le_of_lt hi) (Nat.le_refl _)) (fun q e es n f rw hq => h.quietRd D tr S ho hun hrd hq (.inr fun t a h => by cases h)) C.src hvy
  have hfzlt := h.mem.fzlt
  have hbk : ∀ o p b, Γ.β o = some p → p.block = some b → b < w.heap.size := fun o p b hp hb => by
    obtain ⟨_, _, _, h3, _⟩ := h.mem.ob o p hp
    exact h3.lt hb
  have hS0 := h.step 0
  have hu := (ty_slice C.ty).2
  -- what the temporary holds onto which is appended
  have hprv : ∃ xs, Prv P w0.heap.size Γ w e (act.tmps.getD x undef) xs ∧ room (nadd (len xs) (len ys)) (P.bytesOf e) = true ∧ s (i + 1) = (s i).set (some d) (if innerT ops d then .junk else .snap e false (Go.Ev.app xs ys) false) ∧ (litE (s i).obs e ((s i).tmps.getD x .junk) = true → xs = []) := by
    rcases C.st with ⟨hlit, hroom, hs1⟩ | ⟨hlit, hin, p, x', y', xs, hp, hap, hxs, hroom, hs1⟩
    · refine ⟨[], .inl ⟨rfl, ?_⟩, by simpa [nadd, len] using hroom, by simpa [Go.Ev.app] using hs1, fun _ => rfl⟩
      unfold litE at hlit
      split at hlit
      · rename_i q0 hq0'
        split at hlit
        · rename_i e' rw hob
          have hlit : e = e' := by simpa using hlit
          subst hlit
          rw [hq0'] at hvx
          have hvx := hvx.one (by simp) rfl (by simp)
          generalize act.tmps.getD x undef = vx at hvx
          cases hvx with
          | ownNil hp =>
            obtain ⟨hsh, _⟩ := h.mem.at (tr.wk (Nat.le_of_lt hi) (Nat.le_refl _)) hp hob
            have := hsh.2.1; cases this
          | own hp hc hs hf =>
            obtain ⟨hsh, _⟩ := h.mem.at (tr.wk (Nat.le_of_lt hi) (Nat.le_refl _)) hp hob
            obtain ⟨_, hl, _, hfull⟩ := hsh
            have := hf (hfull rfl)
            simp at hl
            subst hl
            rw [this]
            exact ⟨_, rfl⟩
        · cases hlit
      · cases hlit
    · refine ⟨xs, ?_, hroom, by rw [hin]; simpa using hs1, fun hl => by rw [hl] at hlit; cases hlit⟩
      -- the first append
      unfold opOf at hp
      have hpd : p.dst = some x := by simpa using List.find?_some hp
      obtain ⟨j, hj⟩ := List.mem_iff_getElem?.1 (List.mem_of_find?_eq_some hp)
      have hj : ops[j]? = some p := by simpa using hj
      have hji : j ≠ i := by
        rintro rfl
        rw [ho] at hj; cases hj
        rw [C.dst] at hpd; cases hpd
        exact C.ne rfl
      have hlt : j < i := by
        rcases Nat.lt_or_gt_of_ne hji with h1 | h1
        · exact h1
        · exact absurd hrdx ((D.spec h1 ho hj).2.2.2.1 (by rw [C.app]; rfl) x hpd)
      have hjl : listed.getD j false = true := by
        rcases (D.spec hlt hj ho).1 with h1 | ⟨h1, _⟩
        · exact hon j h1
        · exact absurd hrdx (h1 x hpd)
      obtain ⟨_, c', hop', hcal', _, hargs'⟩ := appOf_call hap
      have hps : isSto p = false := by simp [isSto, hop']
      rcases tr.step j p hj with ⟨h1, _⟩ | ⟨_, _, t2, x2, y2, e2, d2, ys2, C2⟩ | ⟨_, h1, _⟩
      · rw [hps] at h1; cases h1
      · have e3 := C2.app
        rw [hap] at e3; cases e3
        have hty2 := C2.ty
        rw [C.ty] at hty2; cases hty2
        have hd2 := C2.dst
        rw [hpd] at hd2; cases hd2
        have hlit2 : litE (s j).obs e ((s j).tmps.getD x' .junk) = true := by
          rcases C2.st with ⟨h1, _⟩ | ⟨_, _, p3, x3, y3, xs3, hp3, hap3, _⟩
          · exact h1
          · unfold opOf at hp3
            have hpd3 : p3.dst = some x' := by simpa using List.find?_some hp3
            obtain ⟨j3, hj3⟩ := List.mem_iff_getElem?.1 (List.mem_of_find?_eq_some hp3)
            have hj3 : ops[j3]? = some p3 := by simpa using hj3
            refine (D.two hj3 hj ho (by rw [hap3]; rfl) (by rw [hap]; rfl) (by rw [C.app]; rfl) ?_ hji ?_).elim
            · rintro rfl
              rw [hj] at hj3; cases hj3
              rw [hpd] at hpd3; cases hpd3
              exact C2.ne rfl
            · rintro rfl
              rw [ho] at hj3; cases hj3
              rw [C.dst] at hpd3; cases hpd3
              have hx' : d ∈ readsOf ops p := by
                refine List.mem_append_left _ (List.mem_filterMap.2 ⟨.tmp d, ?_, rfl⟩)
                have : Operand.tmp d ∈ c'.args := by rw [← Array.mem_toList_iff, hargs']; simp
                simpa using (call_ops (o := p) hop').1 _ this
              exact (D.spec hlt hj ho).2.2.2.1 (by rw [hap]; rfl) d C.dst hx'
        have hyy : ys2 = xs := by
          have h1 := srcE_wk (tr.wk (Nat.le_of_lt hlt) (Nat.le_of_lt hi)) C2.src
          have h2 : ev (s j) y' = ev (s i) y' := by
            cases y' with
            | tmp r =>
              have hr' : r ∈ readsOf ops p := by
                refine List.mem_append_left _ (List.mem_filterMap.2 ⟨.tmp r, ?_, rfl⟩)
                have : Operand.tmp r ∈ c'.args := by rw [← Array.mem_toList_iff, hargs']; simp
                simpa using (call_ops (o := p) hop').1 _ this
              refine (tr.tmps (Nat.le_of_lt hlt) (Nat.le_of_lt hi) fun k q h1 h2 h3 => .inr fun hd => ?_).symm
              by_cases e1 : j = k
              · subst e1
                rw [hj] at h3; cases h3
                rw [hpd] at hd; cases hd
                exact C2.ney rfl
              · exact (D.spec (by omega) hj h3).2.2.2.1 (by rw [hap]; rfl) r hd hr'
            | _ => rfl
          rw [h2, hxs] at h1
          exact (Option.some.inj h1).symm
        subst hyy
        exact hc.ch hmay j i p o t x' y' e x ys2 t y hjl hj C2 hlit2 ho C.app hun
      · have := h1 hmay rfl
        rw [hap] at this; cases this
  obtain ⟨xs, hv, hroom, hs1, hlx⟩ := hprv
  obtain ⟨v', w', hrun, hv', hps⟩ := app_prv (ty := o.type) T hS0.size hfzlt hbk C.plain hu hv (cx := cy) hq0 hqs hroom
  rw [← hvy2] at hrun
  obtain ⟨Fz', hf1, hf2, hval⟩ : ∃ Fz' : Nat → Prop, (∀ b, Γ.Fz b → Fz' b) ∧ (∀ b, Fz' b → Γ.Fz b ∨ (PrvB w0.heap.size Γ b ∧ b < w'.heap.size)) ∧ VRel P w' ⟨Γ.β, Fz'⟩ (if innerT ops d then .junk else .snap e false (Go.Ev.app xs ys) false) v' ∧ (innerT ops d = true → Fz' = Γ.Fz) := by
    cases hin : innerT ops d with
    | true => exact ⟨Γ.Fz, fun _ h => h, fun _ h => .inl h, by simpa using VRel.junk, fun _ => rfl⟩
    | false =>
      obtain ⟨Fz', h1, h2, h3⟩ := hv'.freeze
      exact ⟨Fz', h1, h2, by simpa using h3, fun h => by cases h⟩
  obtain ⟨hval, hFz⟩ := hval
  have hsame : ∀ b, b < w.heap.size → (¬ PrvB w0.heap.size Γ b) → w'.heap[b]? = w.heap[b]? := hps.same
  have hext : Ext (fun _ => True) w w' Γ ⟨Γ.β, Fz'⟩ := ⟨hf1, fun b hb => hsame b (hfzlt b hb) fun h => h.2.2 hb, fun _ _ _ h => h⟩
  have himg : ∀ o p b, Γ.β o = some p → p.block = some b → w'.heap[b]? = w.heap[b]? := fun o p b hp hb => hsame b (hbk o p b hp hb) fun h => h.2.1 o p hp hb
  have hO := h.calm D tr ho hst hun hon (a := if innerT ops d then .junk else .snap e false (Go.Ev.app xs ys) false) (v := v') (Γ' := ⟨Γ.β, Fz'⟩) (w' := w') (by rw [hs1, C.dst]) hval
    ⟨hext, ⟨fun o p hp => by
      obtain ⟨ob, h1, h2, h3, h4⟩ := h.mem.ob o p hp
      exact ⟨ob, h1, h2, h3.same (fun b hb => himg o p b hp hb), fun hcv => (h4 hcv).same (fun b hb => himg o p b hp hb) ⟨hf1, hext.fzs, fun _ _ _ h => h⟩⟩, h.mem.inj, fun b hb => by
        rcases hf2 b hb with h1 | h1
        · exact Nat.lt_of_lt_of_le (hfzlt b h1) hps.size
        · exact h1.2⟩, fun hfree o p b ob ho hp hb hob hrw hfz => by
        rcases hf2 b hfz with h1 | h1
        · exact hfree o p b ob ho hp hb hob hrw h1
        · exact h1.1.2.1 o p hp hb, fun _ _ h => h, fun _ h => .inl h, himg, fun base => by
        have hS := h.step base
        exact ⟨hps.os.trans hS.os, hps.tape.trans hS.tape, hps.output.trans hS.output, Nat.le_trans hS.size hps.size, fun b hb => hf1 b (hS.fz b hb), fun b hb => (hext.fzs b (hS.fz b hb)).trans (hS.fzs b hb),
          fun b hb hn => (hsame b (Nat.lt_of_lt_of_le hb hS.size) fun h => by have := h.1; omega).trans (hS.frame b hb hn), fun b hb => by
            rcases hf2 b hb with h1 | h1
            · exact hS.fznew b h1
            · exact .inr (.inl h1.1.1), hS.keep, hS.new⟩, fun b hb => hsame b (Nat.lt_of_lt_of_le hb hS0.size) fun h => by have := h.1; omega⟩
  have hC : ChInv P may ops s w0.heap.size (listed.setIfInBounds i true) ⟨Γ.β, Fz'⟩ w' (act.put o.dst v') := by
    refine ⟨fun _ i2 k2 o2 p2 t2 x2 y2 e2 d2 ys2 t3 y3 hl hi2 hc2 hlit2 hk2 hp2 hlk => ?_⟩
    by_cases e1 : i2 = i
    · subst e1
      rw [ho] at hi2; cases hi2
      have h1 := hc2.app
      rw [C.app] at h1; cases h1
      have h2 := hc2.dst
      rw [C.dst] at h2; cases h2
      have h3 := hc2.ty
      rw [C.ty] at h3; cases h3
      have h4 := hc2.src
      rw [C.src] at h4; cases h4
      have hin : innerT ops d = true := by
        unfold innerT
        rw [List.any_eq_true]
        exact ⟨p2, List.mem_iff_getElem?.2 ⟨k2, by simpa using hk2⟩, by rw [hp2]; simp⟩
      have hx0 := hlx hlit2
      subst hx0
      have e5 : Go.Ev.app [] ys = ys := by simp [Go.Ev.app]
      rw [e5] at hv'
      have hd : d < act.tmps.size := by rw [h.size, ← tr.len (Nat.le_of_lt hi)]; exact C.lt
      rw [C.dst, put_getD, if_pos ⟨rfl, hd⟩, hFz hin]
      exact hv'
    · exfalso
      have hl : listed.getD i2 false = true := ((listed_set hil).1 hl).resolve_left e1
      have hk3 : k2 ≠ i := by
        rintro rfl
        rw [(listed_set hil).2 (.inl rfl)] at hlk; cases hlk
      have hk4 : i2 ≠ k2 := by
        rintro rfl
        rw [(listed_set hil).2 (.inr hl)] at hlk; cases hlk
      exact D.two hi2 hk2 ho (by rw [hc2.app]; rfl) (by rw [hp2]; rfl) (by rw [C.app]; rfl) hk4 hk3 e1
  obtain ⟨cs, hrb⟩ := run_builtin (P := P) (w := w) (act := act) hop hcal
  unfold Oper.wp
  rw [hrb]
  have hat : c.argTypes = #[t, t] := by
    cases hq : c.argTypes with
    | mk l => rw [hq] at hty; simp at hty; rw [hty]
  have hag : c.args = #[.tmp x, y] := by
    cases hq : c.args with
    | mk l => rw [hq] at hargs; simp at hargs; rw [hargs]
  have e6 : (Array.map act.eval #[.tmp x, y]) = #[act.tmps.getD x undef, act.eval y] := by simp [Act.eval]
  simp only [builtin, hag, hat]
  rw [e6]
  simp only [Sem.run_bind, hrun, Result.andThen_ok, Sem.run_pure]
  exact hN _ _ _ hO hC

/-- One more, whatever it is. -/
theorem OInv.next (T : TabOk P) (D : Draw ops) (tr : Tr P (some lim) may ops s) {obsF : List Ob} (S : Stores P fl lim ops (s ops.size) tg obsF) (hl0 : (s 0).obs.length = lim) (h : OInv P fl lim ops s tg Γ0 w0 a0 listed Γ w act) (hc : ChInv P may ops s w0.heap.size listed Γ w act) {i : Nat} (hr : i ∈ Region.ready .any ops listed)
    {N : Act → World → Prop} {Q : Exit → Act → World → Prop} (hN : ∀ Γ' w' act', OInv P fl lim ops s tg Γ0 w0 a0 (listed.setIfInBounds i true) Γ' w' act' → ChInv P may ops s w0.heap.size (listed.setIfInBounds i true) Γ' w' act' → N act' w') : wpOp P ops Q i N act w := by
  obtain ⟨hun0, o, ho, hall⟩ := mem_ready.1 hr
  have hi : i < ops.size := (Array.getElem?_eq_some_iff.1 ho).1
  have hil : i < listed.size := by rw [h.lsz]; exact hi
  have hun : listed.getD i false = false := by
    simp [hil] at hun0 ⊢; exact hun0
  have hon : ∀ j ∈ onsOf o, listed.getD j false = true := fun j hj => by
    unfold onsOf at hj
    obtain ⟨e, he, rfl⟩ := List.mem_map.1 hj
    obtain ⟨he1, he2⟩ := List.mem_filter.1 he
    exact hall e (Array.mem_toList_iff.1 he1) he2
  unfold wpOp
  simp only [ho]
  cases hst : isSto o with
  | true =>
    have hg := (D.sto ho hst).2.1
    have hw : Region.wanted o (yielded ops act.tmps) = true := by unfold Region.wanted; rw [hg]
    rw [if_pos hw]
    have hna : appOf o = none := by
      cases hq : appOf o with
      | none => rfl
      | some z =>
        obtain ⟨t, x, y⟩ := z
        obtain ⟨_, c, h3, _⟩ := appOf_call hq
        simp [isSto, h3] at hst
    exact .inl (h.store T D tr S ho hst hun hon fun w' h' hs => hN Γ w' act h' (hc.keep D hil ho (hs 0) (fun _ _ => rfl) fun _ => hna))
  | false =>
    rcases tr.step i o ho with ⟨h1, _⟩ | ⟨_, hmay, t, x, y, e, d, ys, C⟩ | ⟨_, hno, y, hg, hy⟩
    · rw [hst] at h1; cases h1
    · have hw : Region.wanted o (yielded ops act.tmps) = true := by unfold Region.wanted; rw [(appOf_call C.app).1]
      rw [if_pos hw]
      exact .inl (h.chain T D tr S hc ho hst hun hon hmay C hN)
    have hna : may = true → appOf o = none := fun hm => hno hm rfl
    have hsz : (s i).tmps.length = act.tmps.size := by rw [tr.len (Nat.le_of_lt hi), h.size]
    have hwt := hg.wanted (P := P) (Γ := Γ) (w := w) (act := act) (fun j b d hgd hd => h.reads D tr ho hun hon (Nat.le_refl i) (Nat.le_of_lt hi) (.inl rfl) (List.mem_append_right _ (by rw [hgd]; simp [hd]))) hsz
    rcases hy with ⟨rfl, a, obs1, hd, hs1⟩ | ⟨rfl, hs1⟩
    · rw [if_pos hwt]
      have hobs1 : (s (i + 1)).obs = obs1 := by rw [hs1, set_obs]
      refine .inl (hd.2.2 (s ops.size).obs _ Γ w act ⟨hobs1 ▸ tr.wk hi (Nat.le_refl _), tr.wk (Nat.le_of_lt hi) (Nat.le_refl _), h.mem, fun hrd x ob hx hlim => h.quietRd D tr S ho hun hrd hx hlim, fun n hn1 hn2 => ?_, fun x hx => h.opnds D tr ho hun hon (Nat.le_refl i) (Nat.le_of_lt hi) (.inl rfl) hx⟩ N Q fun Γ' v w' hv hgr => ?_)
      · cases hb : Γ.β n with
        | none => rfl
        | some q =>
          have := tr.obs_le (Nat.zero_le i) (Nat.le_of_lt hi)
          rcases h.dom n (by rw [hb]; simp) with h1 | ⟨k, h1, h2, h3, h4⟩
          · omega
          · have hne : k ≠ i := by rintro rfl; rw [h2] at hun; cases hun
            rcases Nat.lt_or_gt_of_ne hne with h5 | h5
            · have := tr.obs_le (i := k + 1) (j := i) (by omega) (Nat.le_of_lt hi)
              omega
            · have := tr.obs_le (i := i + 1) (j := k) (by omega) (Nat.le_of_lt h1)
              rw [hobs1] at this
              omega
      · exact hN Γ' w' _ (h.grow D tr ho hst hun hon (by rw [hs1]; cases o.dst <;> rfl) hv (by rw [hobs1]; exact hgr)) (hc.keep D hil ho (hgr.step 0) (fun t ht => put_tmps ht) hna)
    · rw [if_neg (by rw [hwt]; simp)]
      exact hN Γ w _ (h.grow D tr ho hst hun hon (a := .tup []) (v := undef) (by rw [hs1]) VRel.undef (Grow.refl h.mem)) (hc.keep D hil ho (Step.refl _ _ _) (fun t ht => put_tmps ht) hna)

/-- All are done. -/
theorem OInv.all (D : Draw ops) (tr : Tr P (some lim) may ops s) {obsF : List Ob} (S : Stores P fl lim ops (s ops.size) tg obsF) (h : OInv P fl lim ops s tg Γ0 w0 a0 listed Γ w act) (hall : ∀ i, i < ops.size → listed.getD i false = true) :
    Rel P fl { s ops.size with obs := obsF } Γ w act := by
  have hl : ∀ {i : Nat} {o : Oper}, ops[i]? = some o → listed.getD i false = true := fun ho => hall _ (Array.getElem?_eq_some_iff.1 ho).1
  have hat : ∀ x, (∃ (i : Nat) (o : Oper), ops[i]? = some o ∧ isSto o = true ∧ (tg i).1 = x ∧ ∀ (k : Nat) o', i < k → ops[k]? = some o' → isSto o' = true → (tg k).1 ≠ x) ∨ (∀ (i : Nat) o, ops[i]? = some o → isSto o = true → (tg i).1 ≠ x) := fun x => by
    have key : ∀ n, (∃ (i : Nat) (o : Oper), ops[i]? = some o ∧ isSto o = true ∧ (tg i).1 = x ∧ ∀ (k : Nat) o', i < k → k < n → ops[k]? = some o' → isSto o' = true → (tg k).1 ≠ x) ∨ (∀ (i : Nat) o, i < n → ops[i]? = some o → isSto o = true → (tg i).1 ≠ x) := by
      intro n
      induction n with
      | zero => exact .inr fun i o hi => by omega
      | succ n ih =>
        by_cases hn : ∃ o, ops[n]? = some o ∧ isSto o = true ∧ (tg n).1 = x
        · obtain ⟨o, h1, h2, h3⟩ := hn
          exact .inl ⟨n, o, h1, h2, h3, fun k o' g1 g2 => by omega⟩
        · rcases ih with ⟨i, o, h1, h2, h3, h4⟩ | h1
          · refine .inl ⟨i, o, h1, h2, h3, fun k o' g1 g2 g3 g4 => ?_⟩
            by_cases e : k = n
            · subst e; exact fun g5 => hn ⟨o', g3, g4, g5⟩
            · exact h4 k o' g1 (by omega) g3 g4
          · refine .inr fun i o g1 g2 g3 => ?_
            by_cases e : i = n
            · subst e; exact fun g5 => hn ⟨o, g2, g3, g5⟩
            · exact h1 i o (by omega) g2 g3
    rcases key ops.size with ⟨i, o, h1, h2, h3, h4⟩ | h1
    · exact .inl ⟨i, o, h1, h2, h3, fun k o' g1 g2 => h4 k o' g1 (Array.getElem?_eq_some_iff.1 g2).1 g2⟩
    · exact .inr fun i o g1 => h1 i o (Array.getElem?_eq_some_iff.1 g1).1 g1
  refine ⟨⟨fun x p hp => ?_, h.mem.inj, h.mem.fzlt⟩, fun x p b ob hfl hp hb hob hrw => ?_, fun t => ?_, ?_, h.ndef⟩
  · obtain ⟨ob0, h1, h2, h3, h4⟩ := h.mem.ob x p hp
    rcases hat x with ⟨i, o, ho, hs, rfl, hl2⟩ | hn
    · obtain ⟨p', g1, g2, g3, _⟩ := h.done i o (hl ho) ho hs fun k o' hk _ => hl2 k o' hk
      rw [hp] at g1; cases g1
      exact ⟨_, S.last i o ho hs hl2 (h.mem.lt hp), g2, h3, fun _ => g3⟩
    · exact ⟨ob0, by show obsF[x]? = _; rw [S.other x hn]; exact h1, h2, h3, fun _ => h4 fun i o _ ho => hn i o ho⟩
  · rcases hat x with ⟨i, o, ho, hs, rfl, hl2⟩ | hn
    · obtain ⟨p', g1, g2, g3, ob0, g4, g5⟩ := h.done i o (hl ho) ho hs fun k o' hk _ => hl2 k o' hk
      exact h.free _ p b ob0 hfl hp hb g4 g5
    · exact h.free x p b ob hfl hp hb (by rw [← S.other x hn]; exact hob) hrw
  · show VRel P w Γ ((s ops.size).tmps.getD t .junk) _
    by_cases hex : ∃ (i : Nat) (o : Oper), ops[i]? = some o ∧ isSto o = false ∧ o.dst = some t
    · obtain ⟨i, o, ho, hs, hd⟩ := hex
      exact h.told i o t (hl ho) ho hs hd
    · have hno : ∀ (i : Nat) (o : Oper), ops[i]? = some o → isSto o = false → o.dst ≠ some t := fun i o h1 h2 h3 => hex ⟨i, o, h1, h2, h3⟩
      rw [tr.tmps (i := 0) (j := ops.size) (Nat.zero_le _) (Nat.le_refl _) fun k o _ _ h3 => ?_]
      · exact h.rest t fun i o _ h1 => hno i o h1
      · cases hs : isSto o with
        | true => exact .inl rfl
        | false => exact .inr (hno k o h3 hs)
  · show (s ops.size).tmps.length = _
    rw [tr.len (Nat.le_refl _), h.size]

/-- In any order. -/
theorem OInv.any (T : TabOk P) (D : Draw ops) (tr : Tr P (some lim) may ops s) {obsF : List Ob} (S : Stores P fl lim ops (s ops.size) tg obsF) (hl0 : (s 0).obs.length = lim) {Q : Exit → Act → World → Prop}
    (hQ : ∀ listed Γ w act, Rel P fl { s ops.size with obs := obsF } Γ w act → OInv P fl lim ops s tg Γ0 w0 a0 listed Γ w act → Q .normal act w) :
    ∀ (fuel : Nat) (listed : Array Bool) (Γ : Env) (w : World) (act : Act), OInv P fl lim ops s tg Γ0 w0 a0 listed Γ w act → ChInv P may ops s w0.heap.size listed Γ w act → listed.toList.countP (fun b => !b) ≤ fuel → wpAny P .any ops Q fuel listed act w := by
  have done : ∀ (listed : Array Bool) (Γ : Env) (w : World) (act : Act), OInv P fl lim ops s tg Γ0 w0 a0 listed Γ w act → Region.ready .any ops listed = [] → Q .normal act w := fun listed Γ w act h hr => by
    have hall : ∀ n, ∀ i, i < n → i < ops.size → listed.getD i false = true := by
      intro n
      induction n with
      | zero => intro i hi; omega
      | succ n ih =>
        intro i hi hsz
        cases hli : listed.getD i false with
        | true => rfl
        | false =>
          have hmem : i ∈ Region.ready .any ops listed := mem_ready.2 ⟨by
            have : i < listed.size := by rw [h.lsz]; exact hsz
            simp [this] at hli ⊢; exact hli, ops[i], by simp [hsz], fun e he hb => ih e.on ?_ ?_⟩
          · rw [hr] at hmem; cases hmem
          · have := D.back i ops[i] (by simp [hsz]) e.on (List.mem_map.2 ⟨e, List.mem_filter.2 ⟨Array.mem_toList_iff.2 he, hb⟩, rfl⟩)
            omega
          · have := D.back i ops[i] (by simp [hsz]) e.on (List.mem_map.2 ⟨e, List.mem_filter.2 ⟨Array.mem_toList_iff.2 he, hb⟩, rfl⟩)
            omega
    exact hQ listed Γ w act (h.all D tr S fun i hi => hall (i + 1) i (by omega) hi) h
  intro fuel
  induction fuel with
  | zero =>
    intro listed Γ w act h hch hc
    have hr : Region.ready .any ops listed = [] := by
      cases hrd : Region.ready .any ops listed with
      | nil => rfl
      | cons i l =>
        have hmem : i ∈ Region.ready .any ops listed := by rw [hrd]; simp
        obtain ⟨h1, o, ho, _⟩ := mem_ready.1 hmem
        have hi : i < listed.size := by rw [h.lsz]; exact (Array.getElem?_eq_some_iff.1 ho).1
        have h2 : listed[i] = false := by simpa [hi] using h1
        have h3 : 0 < listed.toList.countP (fun b => !b) := List.countP_pos_iff.2 ⟨false, by rw [← h2]; simp, rfl⟩
        omega
    exact ⟨hr, done listed Γ w act h hr⟩
  | succ fuel ih =>
    intro listed Γ w act h hch hc
    refine ⟨done listed Γ w act h, fun i hi => h.next T D tr S hl0 hch hi fun Γ' w' act' h' hch' => ih _ Γ' w' act' h' hch' ?_⟩
    obtain ⟨h1, o, ho, _⟩ := mem_ready.1 hi
    have hi : i < listed.size := by rw [h.lsz]; exact (Array.getElem?_eq_some_iff.1 ho).1
    have h2 : listed[i] = false := by simpa [hi] using h1
    have h3 : (listed.setIfInBounds i true).toList = listed.toList.set i true := by simp
    rw [h3, List.countP_set (by simpa using hi)]
    simp [h2]
    simp at hc
    omega

theorem draw_core (T : TabOk P) (hmix : P.follows .mixedOrders = true) {id : Nat} {st : St} (hd : drawOk ops = true) (hs0 : s 0 = st) (tr : Tr P (some st.obs.length) may ops s) {obsF : List Ob} (S : Stores P fl st.obs.length ops (s ops.size) tg obsF)
    (hr : Rel P fl st Γ w act) {Q : Exit → Act → World → Prop}
    (hQ : ∀ listed Γ' w' act', Rel P fl { s ops.size with obs := obsF } Γ' w' act' → OInv P fl st.obs.length ops s tg Γ w act listed Γ' w' act' → Q .normal act' w') : (Code.region id ops true).wp P Q act w := by
  have D := Draw.of hd
  refine wp_region_any hmix ?_
  have hrel0 := hr.drew
  have hcount : (Array.replicate ops.size false).toList.countP (fun b => !b) ≤ ops.size := by
    refine Nat.le_trans List.countP_le_length ?_
    simp
  have hget : ∀ i, (Array.replicate ops.size false).getD i false = true → False := fun i h => by
    simp [Array.getD] at h
  have hwk : Wk st.obs (s ops.size).obs := by have := tr.wk (Nat.zero_le ops.size) (Nat.le_refl _); rwa [hs0] at this
  have hdom : ∀ x, Γ.β x ≠ none → x < st.obs.length := fun x hx => by
    cases hb : Γ.β x with
    | none => exact absurd hb hx
    | some q => exact hr.mem.lt hb
  exact OInv.any (Γ0 := Γ) (w0 := w) (a0 := act) T D tr S (by rw [hs0]) hQ ops.size _ Γ _ act ⟨by simp, fun i o hi => (hget i hi).elim, (hrel0.mem.wk hwk).cv fun _ _ _ => trivial, hr.free.wk hwk hdom, fun x hx => .inl (hdom x hx), fun i o hi => (hget i hi).elim, fun i o t hi => (hget i hi).elim,
    fun t _ => by rw [hs0]; exact hrel0.tmps t, by rw [hs0]; exact hr.size.symm, hr.ndef, fun base => ⟨rfl, rfl, rfl, Nat.le_refl _, fun _ h => h, fun _ _ => rfl, fun _ _ _ => rfl, fun _ h => .inl h, fun _ _ _ h => h, fun o p _ h hb => .inr ⟨o, p, h, hb⟩⟩, fun _ _ _ => rfl, fun _ _ => rfl⟩ ⟨fun _ i _ _ _ _ _ _ _ _ _ _ _ hi => (hget i hi).elim⟩ hcount

/-- A REGION WHOSE ORDER IS OPEN. -/
theorem draw_sound (T : TabOk P) (F : FnOk P) (hmix : P.follows .mixedOrders = true) {cf : Cfg} (hS : ∀ s ∈ cf.S, Contract P s) {id : Nat} {st : St} {K : St → Option R} (hd : drawOk ops = true)
    (h : stillE P cf true (some st.obs.length) ops ops.toList st (fun st' => storesE P fl st.obs.length ops st' 0 ops.toList [] st'.obs fun obs => K { st' with obs := obs }) = some r) (hr : Rel P fl st Γ w act) {Q : Exit → Act → World → Prop}
    (hQ : ∀ st' Γ' w' act', K st' = some r → Rel P fl st' Γ' w' act' → st.obs.length ≤ st'.obs.length → (∀ base, Step base Γ Γ' w w') → Q .normal act' w') : (Code.region id ops true).wp P Q act w := by
  obtain ⟨s, hs0, hK, htr⟩ := stillE_trace (P := P) T F hS ops.toList h
  have tr : Tr P (some st.obs.length) true ops s := ⟨fun i o ho => htr i o (by simpa using ho)⟩
  have hK' : storesE P fl st.obs.length ops (s ops.size) 0 ops.toList [] (s ops.size).obs (fun obs => K { s ops.size with obs := obs }) = some r := by simpa using hK
  obtain ⟨obsF, tg, hK2, hst⟩ := storesE_spec ops.toList 0 [] _ rfl hK'
  have S := Stores.of hst
  have hlen : st.obs.length ≤ obsF.length := by
    have := tr.obs_le (Nat.zero_le ops.size) (Nat.le_refl _)
    rw [hs0] at this
    rw [S.len]; exact this
  exact draw_core T hmix hd hs0 tr S hr fun listed Γ' w' act' hr' hi => hQ _ Γ' w' act' hK2 hr' hlen hi.step

theorem Tr.pre {lim : Option Nat} (tr : Tr P lim false ops s) : ∀ {j : Nat}, j ≤ ops.size → Pre (s 0).obs (s j).obs
  | 0, _ => Pre.refl _
  | j + 1, hj => by
    refine (tr.pre (j := j) (by omega)).trans ?_
    rcases tr.step j ops[j] (by simp [show j < ops.size by omega]) with ⟨_, e⟩ | ⟨_, h, _⟩ | ⟨_, _, y, _, ⟨_, a, obs1, hd, e⟩ | ⟨_, e⟩⟩
    · rw [e]; exact Pre.refl _
    · cases h
    · rw [e, set_obs]; exact hd.2.1 rfl
    · rw [e, set_obs]; exact Pre.refl _

end
end Go.Ev
