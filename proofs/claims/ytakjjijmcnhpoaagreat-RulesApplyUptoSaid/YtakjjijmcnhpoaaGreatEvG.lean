/- The evaluator E: one operation behind the other: the relation of states. The evaluator E: what is swept when an array grows; what is appended. The evaluator E: append. The evaluator E: append (2). -/
import Derived.Test.YtakjjijmcnhpoaaGreatEvF
import Derived.Laws.AppendOwn
namespace Go.Ev
open Go

structure Rel (P : Program) (fl : Nat) (st : St) (Γ : Env) (w : World) (act : Act) : Prop where
  mem : Mem P w Γ (fun _ => True) st.obs
  free : Free fl Γ st.obs
  tmps : ∀ t, VRel P w Γ (st.tmps.getD t .junk) (act.tmps.getD t undef)
  size : st.tmps.length = act.tmps.size
  ndef : act.defers = []

section
variable {P : Program}

theorem VRel.func {w : World} {Γ : Env} (f : FuncId) : VRel P w Γ (.fn f [] []) (.func (.func f) #[] #[]) :=
  .mk1 (.fn rfl rfl (fun i a v h => by simp at h) (fun i a v h => by simp at h) (fun i a v h => by simp at h) (fun i a v h => by simp at h)) rfl (by simp) rfl
theorem Rel.ev {fl : Nat} {st : St} {Γ : Env} {w : World} {act : Act} (h : Rel P fl st Γ w act) (x : Operand) : VRel P w Γ (Ev.ev st x) (act.eval x) := by
  cases x with
  | tmp t => exact h.tmps t
  | const v => exact ofConst_rel v
  | func f => exact VRel.func f
  | global g => exact .junk
theorem set_getD (l : List A) (d : Nat) (a : A) (t : Nat) : (l.set d a).getD t .junk = if d = t ∧ d < l.length then a else l.getD t .junk := by
  rw [List.getD_eq_getElem?_getD, List.getElem?_set, List.getD_eq_getElem?_getD]
  by_cases h : d = t
  · subst h
    by_cases hl : d < l.length
    · simp [hl]
    · simp [hl]
  · simp [h]
theorem put_getD (a : Act) (d : Tmp) (v : Value) (t : Nat) : (a.put (some d) v).tmps.getD t undef = if d = t ∧ d < a.tmps.size then v else a.tmps.getD t undef := by
  unfold Act.put
  simp only [Array.getD_eq_getD_getElem?, Array.getElem?_setIfInBounds]
  by_cases h : d = t
  · subst h
    by_cases hl : d < a.tmps.size
    · simp [hl]
    · simp [hl]
  · simp [h]
/-- A temporary takes a value. -/
theorem Rel.set {fl : Nat} {st : St} {Γ Γ' : Env} {w w' : World} {act : Act} (h : Rel P fl st Γ w act) {obs1 : List Ob} (e : Ext (fun _ => True) w w' Γ Γ') (hm : Mem P w' Γ' (fun _ => True) obs1) (hf : Free fl Γ' obs1)
    (dst : Option Tmp) {a : A} {v : Value} (hv : VRel P w' Γ' a v) : Rel P fl (St.set { st with obs := obs1 } dst a) Γ' w' (act.put dst v) := by
  cases dst with
  | none => exact ⟨hm, hf, fun t => (h.tmps t).ext (fun _ _ => trivial) e, h.size, h.ndef⟩
  | some d =>
    refine ⟨hm, hf, fun t => ?_, ?_, h.ndef⟩
    · show VRel P w' Γ' ((st.tmps.set d a).getD t .junk) ((act.put (some d) v).tmps.getD t undef)
      rw [set_getD, put_getD, h.size]
      split
      · exact hv
      · exact (h.tmps t).ext (fun _ _ => trivial) e
    · show (st.tmps.set d a).length = (act.tmps.setIfInBounds d v).size
      simp [h.size]
theorem Rel.drew {fl : Nat} {st : St} {Γ : Env} {w : World} {act : Act} (h : Rel P fl st Γ w act) : Rel P fl st Γ { w with drawn := w.drawn + 1 } act := by
  have e : Ext (fun _ => True) w { w with drawn := w.drawn + 1 } Γ Γ := ⟨fun _ h => h, fun _ _ => rfl, fun _ _ _ h => h⟩
  refine ⟨⟨fun o p hp => ?_, h.mem.inj, h.mem.fzlt⟩, h.free, fun t => (h.tmps t).ext (fun _ _ => trivial) e, h.size, h.ndef⟩
  obtain ⟨ob, h1, h2, h3, h4⟩ := h.mem.ob o p hp
  exact ⟨ob, h1, h2, h3.same (fun _ _ => rfl), fun hc => (h4 hc).same (fun _ _ => rfl) ⟨fun _ h => h, fun _ _ => rfl, fun _ _ _ h => h⟩⟩

variable {R : Type} {r : R}

/-- What writes nothing, in order. -/
theorem SOutK.seq {may : Bool} {o : Oper} {st : St} {K : A → List Ob → Option R} (hs : SOutK P none may o st K r) {fl : Nat} {Γ : Env} {w : World} {act : Act} (h : Rel P fl st Γ w act) {N : Act → World → Prop} {Q : Exit → Act → World → Prop}
    (hN : ∀ a obs1 Γ' w' act', K a obs1 = some r → Wk st.obs obs1 → (may = false → Pre st.obs obs1) → Rel P fl (St.set { st with obs := obs1 } o.dst a) Γ' w' act' → (∀ base, Step base Γ Γ' w w') → (∀ b, b < w.heap.size → w'.heap[b]? = w.heap[b]?) → (∃ v, act' = act.put o.dst v) → N act' w') : o.wp P act w N Q := by
  obtain ⟨a, obs1, hK, hwk, hpre, hd⟩ := hs
  have hdom : ∀ n, st.obs.length ≤ n → Γ.β n = none := fun n hn => by
    cases hb : Γ.β n with
    | none => rfl
    | some q => have := h.mem.lt hb; omega
  refine hd obs1 (fun _ => True) Γ w act ⟨Wk.refl _, hwk, h.mem.wk hwk, fun _ _ _ _ _ => trivial, fun n hn _ => hdom n hn, fun x _ => h.ev x⟩ N Q fun Γ' v w' hv hg => ?_
  refine hN a obs1 Γ' w' _ hK hwk hpre (h.set hg.ext hg.mem (hg.free fl (h.free.wk hwk fun o ho => ?_)) o.dst hv) hg.step hg.old ⟨v, rfl⟩
  cases hb : Γ.β o with
  | none => exact absurd hb ho
  | some q => exact h.mem.lt hb

/-- A store, in order. -/
theorem store_seq (T : TabOk P) {o : Oper} {st : St} {t : TypeId} {x y : Operand} (ho : o.op = .store t x y) {fl base : Nat} {K : List Ob → Option R} (hs : storeE P t fl st (ev st x) (ev st y) K = some r) {Γ : Env} {w : World} {act : Act} (h : Rel P fl st Γ w act)
    {N : Act → World → Prop} {Q : Exit → Act → World → Prop}
    (hN : ∀ obs1 w' act', K obs1 = some r → obs1.length = st.obs.length → Rel P fl (St.set { st with obs := obs1 } o.dst .junk) Γ w' act' → Step base Γ Γ w w' → N act' w') : o.wp P act w N Q := by
  unfold storeE at hs
  split at hs
  · rename_i q ob hst
    obtain ⟨p, b, w', ob0, h1, h2, h3, h4, h5, h6, h7, h8, h9, h10, h11⟩ := store_rel T h.mem h.free hst (fun _ _ => trivial) (h.ev x) (h.ev y)
    have hm' := h.mem.write (cv' := fun _ => True) h1 h2 h4 h5 h7 h6 (fun _ => h8) (fun _ _ _ => trivial)
    have hf' : Free fl Γ (st.obs.set q ob) := fun o' p' b' ob' hfl hp' hb' hob' hrw => by
      by_cases e : o' = q
      · subst e
        rw [h1] at hp'; cases hp'
        rw [h2] at hb'; cases hb'
        exact h5
      · rw [List.getElem?_set_ne (Ne.symm e)] at hob'
        exact h.free o' p' b' ob' hfl hp' hb' hob' hrw
    unfold Oper.wp
    have hrun : (execOp act.eval o).run P w = .ok .skip w' := by simp [execOp, ho, h3]
    rw [hrun]
    exact hN _ w' _ hs (by simp) (h.set (h4.ext h5) hm' hf' o.dst .junk) (h4.step h5 h1 h2 base)
  · cases hs

end
end Go.Ev

namespace Go.Ev
open Go

theorem sweepL_get {o : Nat} : ∀ {l : List A} {i : Nat} {a : A}, (sweepL o l)[i]? = some a → ∃ b, l[i]? = some b ∧ a = sweep o b
  | [], i, a, h => by simp [sweepL] at h
  | b :: l, 0, a, h => by simp [sweepL] at h; exact ⟨b, by simp, h.symm⟩
  | b :: l, i + 1, a, h => by
    simp [sweepL] at h
    obtain ⟨c, h1, h2⟩ := sweepL_get h
    exact ⟨c, by simpa using h1, h2⟩
theorem sweepL_length {o : Nat} : ∀ {l : List A}, (sweepL o l).length = l.length
  | [] => rfl
  | b :: l => by simp [sweepL, sweepL_length]
section
variable {P : Program} {w : World} {Γ : Env}

theorem sweep_isS (o : Nat) (a : A) : (sweep o a).isS = a.isS ∨ (sweep o a = .junk ∧ a.isS = false) := by
  cases a <;> simp only [sweep] <;> (try split) <;> simp [A.isS]
theorem sweep_shape {o : Nat} {a : A} {v : Value} (h : VShape a v) : VShape (sweep o a) v := by
  cases a <;> simp only [sweep] <;> (try split) <;> first | exact h | (cases v <;> first | exact h | simp_all [VShape, A.isS])
theorem sweep_fit {o : Nat} {a : A} {t : TypeId} (h : Fit P Γ t a) : Fit P Γ t (sweep o a) := by
  cases a <;> simp only [sweep] <;> (try split) <;> first | exact h | trivial
/-- What is swept is said of the same cells, and lasts where all but that one thing lasts. -/
theorem sweep_rel {o : Nat} {w' : World} {Γ' : Env} (e : Ext (fun q => q ≠ o) w w' Γ Γ') (hv : ∀ a cs, CRel P w Γ a cs → (∃ p, a = .ref o p) ∨ a = .mapr o → False) {a : A} {cs : List Value} (h : CRel P w Γ a cs) : CRel P w' Γ' (sweep o a) cs := by
  induction h with
  | junk h => exact .junk h
  | int => exact .int
  | bool => exact .bool
  | str h => exact .str h
  | dat ht h => exact .dat ht (h.mono e.fz e.fzs)
  | st ht hl hn ho hy hx hh ih =>
    refine .st ht hl (by rw [sweepL_length]; exact hn) ho (fun i f a hf ha => ?_) hx (fun i f a hf ha => ?_)
    · obtain ⟨b, h1, rfl⟩ := sweepL_get ha
      have hF : Fit P Γ f.type (sweep o b) := sweep_fit (hy i f b hf h1)
      revert hF
      cases hb : sweep o b with
      | own q =>
        intro hF
        obtain ⟨p, el, g1, g2⟩ := hF
        have hq : q ≠ o := by
          intro e; subst e
          cases b <;> simp only [sweep] at hb <;> (try split at hb) <;> simp_all
        exact ⟨p, el, e.keep _ _ hq g1, g2⟩
      | sub q lo n f' =>
        intro hF
        obtain ⟨p, el, g1, g2⟩ := hF
        have hq : q ≠ o := by
          intro e; subst e
          cases b <;> simp only [sweep] at hb <;> (try split at hb) <;> simp_all
        exact ⟨p, el, e.keep _ _ hq g1, g2⟩
      | _ => exact fun h => h
    · obtain ⟨b, h1, rfl⟩ := sweepL_get ha
      exact ih i f b hf h1
  | nsl => exact .nsl
  | snapNil hn he => exact .snapNil hn he
  | snapE hn he => exact .snapE hn he
  | snap hn hf hl hc hfull css hcell h =>
    exact .snap hn (e.fz _ hf) hl hc hfull css (fun i hi => ⟨(hcell i hi).1, (hcell i hi).2.same (e.fzs _ hf)⟩) (fun i x hx => (h i x hx).mono e.fz e.fzs)
  | ownNil hp =>
    rename_i q _
    simp only [sweep]
    split
    · exact .junk (by intro v hv; simp at hv; subst hv; rfl)
    · rename_i hq; exact .ownNil (e.keep _ _ (by simpa using hq) hp)
  | own hp hc hs hf =>
    simp only [sweep]
    split
    · exact .junk (by intro v hv; simp at hv; subst hv; rfl)
    · rename_i hq; exact .own (e.keep _ _ (by simpa using hq) hp) hc hs hf
  | subNil hp =>
    simp only [sweep]
    split
    · exact .junk (by intro v hv; simp at hv; subst hv; rfl)
    · rename_i hq; exact .subNil (e.keep _ _ (by simpa using hq) hp)
  | sub hp hl hc hs hf ho =>
    simp only [sweep]
    split
    · exact .junk (by intro v hv; simp at hv; subst hv; rfl)
    · rename_i hq; exact .sub (e.keep _ _ (by simpa using hq) hp) hl hc hs hf ho
  | ref hp ho =>
    rename_i q b t path u off
    simp only [sweep]
    refine .ref (e.keep _ _ (fun h => ?_) hp) ho
    subst h
    exact hv _ _ (.ref hp ho) (.inl ⟨_, rfl⟩)
  | eref hp hi ho =>
    simp only [sweep]
    split
    · exact .junk (by intro v hv; simp at hv; subst hv; rfl)
    · rename_i hq; exact .eref (e.keep _ _ (by simpa using hq) hp) hi ho
  | dref hf hl hc h => exact .dref (e.fz _ hf) hl (hc.same (e.fzs _ hf)) (h.mono e.fz e.fzs)
  | nptr => exact .nptr
  | fn h1 h2 sa sc ha hc iha ihc =>
    refine .fn (by rw [sweepL_length]; exact h1) (by rw [sweepL_length]; exact h2) (fun i a v h h' => ?_) (fun i a v h h' => ?_) (fun i a v h h' => ?_) (fun i a v h h' => ?_)
    · obtain ⟨b, g1, rfl⟩ := sweepL_get h; exact sweep_shape (sa i b v g1 h')
    · obtain ⟨b, g1, rfl⟩ := sweepL_get h; exact sweep_shape (sc i b v g1 h')
    · obtain ⟨b, g1, rfl⟩ := sweepL_get h; exact iha i b v g1 h'
    · obtain ⟨b, g1, rfl⟩ := sweepL_get h; exact ihc i b v g1 h'
  | mapr hp =>
    rename_i q b
    simp only [sweep]
    refine .mapr (e.keep _ _ (fun h => ?_) hp)
    subst h
    exact hv _ _ (.mapr hp) (.inr rfl)


/-! ### What is appended -/
theorem CellsAt.append {b off : Nat} {xs ys : List Value} (h : CellsAt w b off xs) (k : CellsAt w b (off + xs.length) ys) : CellsAt w b off (xs ++ ys) := fun i v hv => by
  by_cases hi : i < xs.length
  · rw [List.getElem?_append_left hi] at hv; exact h i v hv
  · rw [List.getElem?_append_right (by omega)] at hv
    have := k _ v hv
    rwa [show off + xs.length + (i - xs.length) = off + i by omega] at this
theorem flat_cells {b off sz : Nat} (css : Nat → List Value) : ∀ (m : Nat), (∀ i, i < m → (css i).length = sz ∧ CellsAt w b (off + i * sz) (css i)) → ∃ news : List Value, news.length = m * sz ∧ CellsAt w b off news ∧ ∀ i, i < m → (news.drop (i * sz)).take sz = css i
  | 0, _ => ⟨[], by simp, fun i v hv => by simp at hv, fun i hi => by omega⟩
  | m + 1, h => by
    obtain ⟨news, h1, h2, h3⟩ := flat_cells css m (fun i hi => h i (by omega))
    obtain ⟨h4, h5⟩ := h m (by omega)
    refine ⟨news ++ css m, by simp [h1, h4, Nat.add_mul], h2.append (by rw [h1]; exact h5), fun i hi => ?_⟩
    by_cases hm : i = m
    · subst hm
      rw [List.drop_append_of_le_length (by omega), List.drop_of_length_le (by omega)]
      simp [← h4]
    · rw [← h3 i (by omega)]
      have hle : (i + 1) * sz ≤ m * sz := Nat.mul_le_mul_right _ (by omega)
      rw [Nat.add_mul, Nat.one_mul] at hle
      rw [List.drop_append_of_le_length (by omega), List.take_append_of_le_length (by simp; omega)]
structure Src (P : Program) (w : World) (Γ : Env) (e : TypeId) (xs : List D) (a : Addr) (news : List Value) : Prop where
  len : news.length = xs.length * P.cellsOf e
  cells : ∀ j v, news[j]? = some v → w.cell? (a.add j) = some v
  one : ∀ v ∈ news, v.oneCell' = true
  data : ∀ (i : Nat) y, xs[i]? = some y → DRel P w Γ.Fz e y ((news.drop (i * P.cellsOf e)).take (P.cellsOf e))
theorem cells_add {b off : Nat} {xs : List Value} (h : CellsAt w b off xs) : ∀ j v, xs[j]? = some v → w.cell? ((⟨b, off, none⟩ : Addr).add j) = some v := fun j v hv => by
  rw [Addr.add_mid]; exact h j v hv
/-- Cells in pieces: each cell lies in one of them. -/
theorem one_of_pieces {sz m : Nat} {news : List Value} (hl : news.length = m * sz) (h : ∀ i, i < m → ∀ v ∈ (news.drop (i * sz)).take sz, v.oneCell' = true) : ∀ v ∈ news, v.oneCell' = true := by
  intro v hv
  obtain ⟨j, hj⟩ := List.mem_iff_getElem?.1 hv
  have hlt := (List.getElem?_eq_some_iff.1 hj).1
  have hsz : 0 < sz := by
    rcases Nat.eq_zero_or_pos sz with h0 | h0
    · rw [h0] at hl; omega
    · exact h0
  have hi : j / sz < m := Nat.div_lt_of_lt_mul (by rw [Nat.mul_comm]; omega)
  refine h (j / sz) hi v (List.mem_iff_getElem?.2 ⟨j % sz, ?_⟩)
  rw [List.getElem?_take, if_pos (Nat.mod_lt _ hsz), List.getElem?_drop]
  rw [Nat.mul_comm, Nat.div_add_mod]
  exact hj
theorem srcE_at (T : TabOk P) {obs obsS : List Ob} {cv : Nat → Prop} (hm : Mem P w Γ cv obsS) (hwk : Wk obs obsS) (hcv : ∀ q e es n f rw, obs[q]? = some (.arr e es n f rw) → cv q) {e : TypeId} {x : A} {xs : List D} (h : srcE obs e x = some xs) {v : Value} (hv : VRel P w Γ x v) :
    ∃ q c, v = .slice q xs.length c ∧ (q = none → xs = []) ∧ ∀ a, q = some a → ∃ news, Src P w Γ e xs a news := by
  unfold srcE at h
  split at h
  · cases h
    have := hv.one (by simp) rfl (by simp)
    cases this
    exact ⟨none, 0, rfl, fun _ => rfl, fun a h => by cases h⟩
  · rename_i e' nil es f
    split at h
    · rename_i he
      have he : e = e' := by simpa using he
      subst he
      cases h
      have := hv.one (by simp) rfl (by simp)
      cases this with
      | snapNil hn he => subst he; exact ⟨none, 0, rfl, fun _ => rfl, fun a h => by cases h⟩
      | snapE hn he => subst he; exact ⟨some _, 0, rfl, fun _ => rfl, fun a h => ⟨[], by simp, fun j v h => by simp at h, fun v h => by simp at h, fun i y h => by simp at h⟩⟩
      | snap hn hf hl hc hfull css hcell hd =>
        subst hl
        refine ⟨_, _, rfl, fun h => (by cases h), fun a ha => ?_⟩
        cases ha
        obtain ⟨news, h1, h2, h3⟩ := flat_cells (w := w) css xs.length hcell
        have hdat : ∀ (i : Nat) y, xs[i]? = some y → DRel P w Γ.Fz e y ((news.drop (i * P.cellsOf e)).take (P.cellsOf e)) := fun i y hy => by
          rw [h3 i (List.getElem?_eq_some_iff.1 hy).1]; exact hd i y hy
        exact ⟨news, h1, cells_add h2, one_of_pieces h1 (fun i hi => (hdat i _ (List.getElem?_eq_getElem hi)).oneC), hdat⟩
    · cases h
  · rename_i q
    split at h
    · rename_i e' es nilable f rw hob
      split at h
      · rename_i he
        have he : e = e' := by simpa using he
        subst he
        cases h
        have := hv.one (by simp) rfl (by simp)
        cases this with
        | ownNil hp =>
          obtain ⟨_, _, he⟩ := (hm.at hwk hp hob).1
          subst he; exact ⟨none, 0, rfl, fun _ => rfl, fun a h => by cases h⟩
        | own hp hc hs hfull =>
          obtain ⟨hsh, ⟨c, hcell, hsz, hcl⟩, hct⟩ := hm.at hwk hp hob
          obtain ⟨rfl, hlen, _⟩ := hsh
          subst hlen
          refine ⟨_, _, rfl, fun h => (by cases h), fun a ha => ?_⟩
          cases ha
          have hdat : ∀ (i : Nat) y, xs[i]? = some y → DRel P w Γ.Fz e y (((cellsIn c 0 (xs.length * P.cellsOf e)).drop (i * P.cellsOf e)).take (P.cellsOf e)) := fun i y hy => by
            have hi := (List.getElem?_eq_some_iff.1 hy).1
            have hle : (i + 1) * P.cellsOf e ≤ xs.length * P.cellsOf e := Nat.mul_le_mul_right _ hi
            rw [Nat.add_mul, Nat.one_mul] at hle
            unfold cellsIn
            rw [cut_cut _ _ _ _ _ hle, Nat.zero_add]
            exact hct (hcv _ _ _ _ _ _ hob) c _ _ hcell i y hy
          have hl := cellsIn_length (c := c) (o := 0) (n := xs.length * P.cellsOf e) (by omega)
          exact ⟨_, hl, cells_add (cellsIn_at hcell 0 _), one_of_pieces hl (fun i hi => (hdat i _ (List.getElem?_eq_getElem hi)).oneC), hdat⟩
      · cases h
    · cases h
  · rename_i q lo n f0
    split at h
    · rename_i e' es nilable f rw hob
      split at h
      · rename_i he
        have he : e = e' := by simpa using he
        subst he
        cases h
        have := hv.one (by simp) rfl (by simp)
        cases this with
        | subNil hp =>
          obtain ⟨_, _, he⟩ := (hm.at hwk hp hob).1
          subst he; exact ⟨none, 0, rfl, fun _ => rfl, fun a h => by cases h⟩
        | sub hp hlo hc hs hfull hoff =>
          rename_i b len size e2 full cap off
          obtain ⟨hsh, ⟨c, hcell, hsz, hcl⟩, hct⟩ := hm.at hwk hp hob
          obtain ⟨rfl, hlen, _⟩ := hsh
          have hln : (cut es lo n).length = n := by simp [cut]; omega
          refine ⟨some ⟨b, off, none⟩, cap, by rw [hln], fun h => (by cases h), fun a ha => ?_⟩
          cases ha
          have hdat : ∀ (i : Nat) y, (cut es lo n)[i]? = some y → DRel P w Γ.Fz e y (((cellsIn c (lo * P.cellsOf e) (n * P.cellsOf e)).drop (i * P.cellsOf e)).take (P.cellsOf e)) := fun i y hy => by
            have hi : i < n := by rw [← hln]; exact (List.getElem?_eq_some_iff.1 hy).1
            have hle : (i + 1) * P.cellsOf e ≤ n * P.cellsOf e := Nat.mul_le_mul_right _ hi
            rw [Nat.add_mul, Nat.one_mul] at hle
            unfold cellsIn
            rw [cut_cut _ _ _ _ _ hle, ← Nat.add_mul]
            refine hct (hcv _ _ _ _ _ _ hob) c _ _ hcell (lo + i) y ?_
            unfold cut at hy
            rw [List.getElem?_take, if_pos hi, List.getElem?_drop] at hy
            exact hy
          have hle : (lo + n) * P.cellsOf e ≤ len * P.cellsOf e := Nat.mul_le_mul_right _ hlo
          rw [Nat.add_mul] at hle
          have hl := cellsIn_length (c := c) (o := lo * P.cellsOf e) (n := n * P.cellsOf e) (by omega)
          refine ⟨cellsIn c (lo * P.cellsOf e) (n * P.cellsOf e), by rw [hln]; exact hl, ?_, one_of_pieces hl (fun i hi => ?_), hdat⟩
          · rcases hoff with hoff | hoff
            · rw [hoff]; exact cells_add (cellsIn_at hcell _ _)
            · have : n = 0 := by omega
              subst this
              intro j v hv
              simp [cellsIn] at hv
          · have := hdat i (cut es lo n)[i] (List.getElem?_eq_getElem (by omega))
            exact this.oneC
      · cases h
    · cases h
  · cases h

theorem srcE_rel (T : TabOk P) {obs : List Ob} (hm : Mem P w Γ (fun _ => True) obs) {e : TypeId} {x : A} {xs : List D} (h : srcE obs e x = some xs) {v : Value} (hv : VRel P w Γ x v) :
    ∃ q c, v = .slice q xs.length c ∧ (q = none → xs = []) ∧ ∀ a, q = some a → ∃ news, Src P w Γ e xs a news :=
  srcE_at T hm (Wk.refl _) (fun _ _ _ _ _ _ _ => trivial) h hv
end
end Go.Ev

namespace Go.Ev
open Go

section
variable {P : Program}

theorem sweep_vrel1 {o : Nat} {w w' : World} {Γ Γ' : Env} (e : Ext (fun q => q ≠ o) w w' Γ Γ') (hv : ∀ a cs, CRel P w Γ a cs → (∃ p, a = .ref o p) ∨ a = .mapr o → False) {a : A} {v : Value} (h : VRel1 P w Γ a v) : VRel1 P w' Γ' (sweep o a) v := by
  rcases h with rfl | ⟨h, h'⟩
  · exact .inl rfl
  · exact .inr ⟨sweep_rel e hv h, sweep_shape h'⟩
theorem sweep_vrel {o : Nat} {w w' : World} {Γ Γ' : Env} (e : Ext (fun q => q ≠ o) w w' Γ Γ') (hv : ∀ a cs, CRel P w Γ a cs → (∃ p, a = .ref o p) ∨ a = .mapr o → False) {a : A} {v : Value} (h : VRel P w Γ a v) : VRel P w' Γ' (sweep o a) v := by
  by_cases ht : ∃ l, a = .tup l
  · obtain ⟨l, rfl⟩ := ht
    obtain ⟨vs, h1, h2, h3⟩ := h
    refine ⟨vs, h1, by rw [sweepL_length]; exact h2, fun i a x ha hx => ?_⟩
    obtain ⟨b, g1, rfl⟩ := sweepL_get ha
    exact sweep_vrel1 e hv (h3 i b x g1 hx)
  · refine .of1 (sweep_vrel1 e hv (h.to1 fun l e => ht ⟨l, e⟩)) fun l hl => ?_
    cases a <;> simp only [sweep] at hl <;> (try split at hl) <;> first | (cases hl; done) | exact ht ⟨_, rfl⟩
theorem sweepO_shape {o : Nat} {ob : Ob} {p : Place} (h : Shape ob p) : Shape (sweepO o ob) p := by
  cases ob <;> cases p <;> simp_all [sweepO, Shape, sweepL_length]
theorem sweepO_rw {o : Nat} {ob : Ob} : (sweepO o ob).rw = ob.rw := by cases ob <;> rfl
theorem sweep_fit' {o : Nat} {w w' : World} {Γ Γ' : Env} (e : Ext (fun q => q ≠ o) w w' Γ Γ') {a : A} {t : TypeId} (h : Fit P Γ t a) : Fit P Γ' t (sweep o a) := by
  cases a with
  | own q =>
    simp only [sweep]
    split
    · trivial
    · rename_i hq
      obtain ⟨p, el, g1, g2⟩ := h
      exact ⟨p, el, e.keep _ _ (by simpa using hq) g1, g2⟩
  | sub q lo n f =>
    simp only [sweep]
    split
    · trivial
    · rename_i hq
      obtain ⟨p, el, g1, g2⟩ := h
      exact ⟨p, el, e.keep _ _ (by simpa using hq) g1, g2⟩
  | eref q i p => simp only [sweep]; split <;> trivial
  | _ => exact h
theorem sweepO_content {o : Nat} {w w' : World} {Γ Γ' : Env} (e : Ext (fun q => q ≠ o) w w' Γ Γ') (hv : ∀ a cs, CRel P w Γ a cs → (∃ p, a = .ref o p) ∨ a = .mapr o → False) {ob : Ob} {p : Place} (h : Content P w Γ ob p)
    (hb : ∀ b, p.block = some b → w'.heap[b]? = w.heap[b]?) : Content P w' Γ' (sweepO o ob) p := by
  cases ob with
  | dead => cases p <;> trivial
  | var t a =>
    cases p with
    | var b t' =>
      obtain ⟨h1, h2⟩ := h
      exact ⟨sweep_fit' e h1, fun c ty fz hc => sweep_rel e hv (h2 c ty fz ((hb b rfl).symm.trans hc))⟩
    | _ => trivial
  | arr t es n f rw =>
    cases p with
    | arr b len size e' full =>
      intro c ty fz hc i x hx
      exact (h c ty fz ((hb b rfl).symm.trans hc) i x hx).mono e.fz e.fzs
    | _ => trivial
  | arrA t as f rw =>
    cases p with
    | arr b len size e' full =>
      intro c ty fz hc i x hx
      obtain ⟨y, g1, rfl⟩ := sweepL_get hx
      obtain ⟨k1, k2⟩ := h c ty fz ((hb b rfl).symm.trans hc) i y g1
      exact ⟨sweep_fit' e k1, sweep_rel e hv k2⟩
    | _ => trivial
  | map k v es =>
    cases p with
    | map b =>
      intro en cl hc
      obtain ⟨g1, g2⟩ := h en cl ((hb b rfl).symm.trans hc)
      refine ⟨by simpa using g1, fun i x y hx hy => ?_⟩
      have hx : (es.map fun x => (sweep o x.1, sweep o x.2))[i]? = some x := hx
      rw [List.getElem?_map] at hx
      obtain ⟨x', hx', rfl⟩ := Option.map_eq_some_iff.1 hx
      obtain ⟨k1, n1, k2, n2, e1, e2⟩ := g2 i x' y hx' hy
      subst e1
      exact ⟨k1, n1, k2, n2, rfl, e2⟩
    | _ => trivial

/-- An array has grown: it may lie in another block; its old names are swept. -/
theorem Rel.regrow {fl base : Nat} {st : St} {Γ : Env} {w w' : World} {act : Act} (h : Rel P fl st Γ w act) {o : Nat} {p0 p : Place} {ob : Ob} (h0 : Γ.β o = some p0) (harr : ∃ e, p0.elem = some e) (hbase : base ≤ o)
    (hos : w'.os = w.os ∧ w'.tape = w.tape ∧ w'.output = w.output) (hsz : w.heap.size ≤ w'.heap.size) (hfr : ∀ k, k < w.heap.size → p0.block ≠ some k → w'.heap[k]? = w.heap[k]?)
    (hp0 : ∀ b, p0.block = some b → ¬ Γ.Fz b) (hp : ∀ b, p.block = some b → ¬ Γ.Fz b ∧ (p0.block = some b ∨ w.heap.size ≤ b))
    (hs : Shape ob p) (hb : Backed P w' p) (hc : Content P w' (Γ.put o p) ob p) :
    Rel P fl { tmps := st.tmps.map (sweep o), obs := (st.obs.map (sweepO o)).set o ob } (Γ.put o p) w' act ∧ Step base Γ (Γ.put o p) w w' := by
  have hlt := h.mem.lt h0
  have hfzs : ∀ k, Γ.Fz k → w'.heap[k]? = w.heap[k]? := fun k hk => hfr k (h.mem.fzlt k hk) (fun e => hp0 k e hk)
  have hext : Ext (fun q => q ≠ o) w w' Γ (Γ.put o p) := ⟨fun _ h => h, hfzs, fun q r hq hr => by rw [Env.put_ne _ _ hq]; exact hr⟩
  have hv : ∀ a cs, CRel P w Γ a cs → (∃ p, a = .ref o p) ∨ a = .mapr o → False := fun a cs hcr ha => by
    obtain ⟨e, he⟩ := harr
    rcases ha with ⟨q, rfl⟩ | rfl
    · cases hcr with
      | ref hp => rw [h0] at hp; cases hp; cases he
    · cases hcr with
      | mapr hp => rw [h0] at hp; cases hp; cases he
  have hbl : ∀ q r b, q ≠ o → Γ.β q = some r → r.block = some b → w'.heap[b]? = w.heap[b]? := fun q r b hq hr hb => by
    obtain ⟨_, _, _, h3, _⟩ := h.mem.ob q r hr
    exact hfr b (h3.lt hb) (fun e => hq (h.mem.inj q o r p0 b hr h0 hb e))
  refine ⟨⟨⟨fun q r hr => ?_, fun q q' r r' b hr hr' hb hb' => ?_, fun b hb => Nat.lt_of_lt_of_le (h.mem.fzlt b hb) hsz⟩, fun q r b ob' hq hr hb hob hrw => ?_, fun t => ?_, by simpa using h.size, h.ndef⟩, ?_⟩
  · by_cases e : q = o
    · subst e
      rw [Env.put_at] at hr; cases hr
      exact ⟨ob, by rw [List.getElem?_set_self (by simpa using hlt)], hs, hb, fun _ => hc⟩
    · rw [Env.put_ne _ _ e] at hr
      obtain ⟨ob', h1, h2, h3, h4⟩ := h.mem.ob q r hr
      refine ⟨sweepO o ob', by rw [List.getElem?_set_ne (Ne.symm e), List.getElem?_map, h1]; rfl, sweepO_shape h2, h3.same (fun b hb => hbl q r b e hr hb), fun _ => sweepO_content hext hv (h4 trivial) (fun b hb => hbl q r b e hr hb)⟩
  · have key : ∀ q r b, q ≠ o → Γ.β q = some r → r.block = some b → p.block = some b → False := fun q r b hq hr hb hpb => by
      rcases (hp b hpb).2 with e | e
      · exact hq (h.mem.inj q o r p0 b hr h0 hb e)
      · obtain ⟨_, _, _, h3, _⟩ := h.mem.ob q r hr
        have := h3.lt hb
        omega
    by_cases e : q = o <;> by_cases e' : q' = o
    · rw [e, e']
    · subst e
      rw [Env.put_at] at hr; cases hr
      rw [Env.put_ne _ _ e'] at hr'
      exact (key q' r' b e' hr' hb' hb).elim
    · subst e'
      rw [Env.put_at] at hr'; cases hr'
      rw [Env.put_ne _ _ e] at hr
      exact (key q r b e hr hb hb').elim
    · rw [Env.put_ne _ _ e] at hr
      rw [Env.put_ne _ _ e'] at hr'
      exact h.mem.inj q q' r r' b hr hr' hb hb'
  · by_cases e : q = o
    · subst e
      rw [Env.put_at] at hr; cases hr
      exact (hp b hb).1
    · rw [Env.put_ne _ _ e] at hr
      have hob : ((st.obs.map (sweepO o)).set o ob)[q]? = some ob' := hob
      rw [List.getElem?_set_ne (Ne.symm e), List.getElem?_map] at hob
      obtain ⟨ob2, h1, rfl⟩ := Option.map_eq_some_iff.1 hob
      rw [sweepO_rw] at hrw
      exact h.free q r b ob2 hq hr hb h1 hrw
  · have e : (st.tmps.map (sweep o)).getD t .junk = sweep o (st.tmps.getD t .junk) := by
      rw [List.getD_eq_getElem?_getD, List.getElem?_map, List.getD_eq_getElem?_getD]
      cases st.tmps[t]? <;> rfl
    show VRel P w' (Γ.put o p) ((st.tmps.map (sweep o)).getD t .junk) (act.tmps.getD t undef)
    rw [e]
    exact sweep_vrel hext hv (h.tmps t)
  · exact ⟨hos.1, hos.2.1, hos.2.2, hsz, fun _ h => h, hfzs, fun k hk hn => hfr k hk (fun e => hn o p0 h0 e), fun b hb => .inl hb, fun q r hq hr => by rw [Env.put_ne _ _ (by omega)]; exact hr, fun q r b hr hb => by
      by_cases e : q = o
      · subst e
        rw [Env.put_at] at hr; cases hr
        rcases (hp b hb).2 with e' | e'
        · exact .inr ⟨q, p0, h0, e'⟩
        · exact .inl e'
      · rw [Env.put_ne _ _ e] at hr
        exact .inr ⟨q, r, hr, hb⟩⟩

end
end Go.Ev

namespace Go.Ev
open Go

section
variable {P : Program}

theorem run_append_zero {w : World} {t ty e : TypeId} {i : TypeInfo} (ht : P.underlying t = some (.slice e)) (hi : P.info? e = some i) {b q : Option Addr} {n cap c : Nat} (hn : n ≤ cap) :
    (Builtin.append_ #[t, t] ty #[.slice b n cap, .slice q 0 c]).run P w = .ok (.slice b n cap) w := by
  cases b <;> cases q <;> simp [Builtin.append_, run_underlying ht, sizeOf, typeInfo, hi, Builtin.lenOf, Builtin.firstCells, loadCells, loadCellsFrom, hn, storeCells]

/-- A new block that holds what is appended. -/
theorem new_cells {w : World} {e : TypeId} {es xs : List D} {olds news : List Value} {rest : Array Value} {Fz : Nat → Prop} (ho : olds.length = es.length * P.cellsOf e) (hn : news.length = xs.length * P.cellsOf e)
    (hod : ∀ (i : Nat) y, es[i]? = some y → DRel P w Fz e y ((olds.drop (i * P.cellsOf e)).take (P.cellsOf e))) (hnd : ∀ (i : Nat) y, xs[i]? = some y → DRel P w Fz e y ((news.drop (i * P.cellsOf e)).take (P.cellsOf e))) :
    ∀ (i : Nat) y, (app es xs)[i]? = some y → DRel P w Fz e y (cellsIn (olds.toArray ++ news.toArray ++ rest) (i * P.cellsOf e) (P.cellsOf e)) := fun i y hy => by
  unfold app at hy
  unfold cellsIn
  simp only [Array.toList_append, List.append_assoc]
  by_cases hi : i < es.length
  · rw [List.getElem?_append_left hi] at hy
    have hle : (i + 1) * P.cellsOf e ≤ es.length * P.cellsOf e := Nat.mul_le_mul_right _ hi
    rw [Nat.add_mul, Nat.one_mul] at hle
    rw [List.drop_append_of_le_length (by omega), List.take_append_of_le_length (by simp; omega)]
    exact hod i y hy
  · rw [List.getElem?_append_right (by omega)] at hy
    have hj : i - es.length < xs.length := (List.getElem?_eq_some_iff.1 hy).1
    have hle : (i - es.length + 1) * P.cellsOf e ≤ xs.length * P.cellsOf e := Nat.mul_le_mul_right _ hj
    rw [Nat.add_mul, Nat.one_mul] at hle
    have e1 : i * P.cellsOf e = olds.length + (i - es.length) * P.cellsOf e := by rw [ho, ← Nat.add_mul]; congr 1; omega
    have e2 : ((olds ++ (news ++ rest.toList)).drop (i * P.cellsOf e)) = (news ++ rest.toList).drop ((i - es.length) * P.cellsOf e) := by
      rw [e1, ← List.drop_drop, List.drop_left]
    show DRel P w Fz e y (((olds ++ (news ++ rest.toList)).drop (i * P.cellsOf e)).take (P.cellsOf e))
    rw [e2, List.drop_append_of_le_length (by omega), List.take_append_of_le_length (by simp; omega)]
    exact hnd _ y hy

theorem Mem.drew {w : World} {Γ : Env} {cv : Nat → Prop} {obs : List Ob} (h : Mem P w Γ cv obs) : Mem P w.drew Γ cv obs := by
  refine ⟨fun o p hp => ?_, h.inj, h.fzlt⟩
  obtain ⟨ob, h1, h2, h3, h4⟩ := h.ob o p hp
  exact ⟨ob, h1, h2, h3.same (fun _ _ => rfl), fun hc => (h4 hc).same (fun _ _ => rfl) ⟨fun _ h => h, fun _ _ => rfl, fun _ _ _ h => h⟩⟩
theorem drew_alloc_new (w : World) (ob : Obj) : (w.drew.alloc ob).heap[w.heap.size]? = some ob := heap_alloc_new w.drew ob
theorem drew_alloc_old (w : World) (ob : Obj) {b : Nat} (h : b < w.heap.size) : (w.drew.alloc ob).heap[b]? = w.heap[b]? := heap_alloc_old w.drew ob b h
/-- A new array of what has grown. -/
theorem grow_block {w : World} {Γ : Env} {cv : Nat → Prop} {obs : List Ob} (hm : Mem P w Γ cv obs) {n : Nat} (hn : Γ.β n = none) {e : TypeId} {es : List D} {nl : Bool} (hob : obs[n]? = some (.arr e es nl false true)) (C : Array Value) (cap : Nat)
    (hC : C.size = cap * P.cellsOf e) (hcap : es.length ≤ cap) (hnl : nl = true → es ≠ []) (hdat : ∀ (i : Nat) y, es[i]? = some y → DRel P w Γ.Fz e y (cellsIn C (i * P.cellsOf e) (P.cellsOf e))) :
    Grow P Γ (Γ.put n (.arr w.heap.size es.length (cap * P.cellsOf e) e false)) w (w.drew.alloc (.cells C e)) cv obs n (n + 1) ∧
      VRel P (w.drew.alloc (.cells C e)) (Γ.put n (.arr w.heap.size es.length (cap * P.cellsOf e) e false)) (.own n) (.slice (some ⟨w.heap.size, 0, none⟩) es.length cap) := by
  have hle : es.length * P.cellsOf e ≤ cap * P.cellsOf e := Nat.mul_le_mul_right _ hcap
  have hg := Grow.alloc (hm.drew) n hn (.cells C e) (.arr e es nl false true) (.arr w.heap.size es.length (cap * P.cellsOf e) e false) hob (fun b hb => by simp [Place.block] at hb; exact hb.symm)
    ⟨rfl, rfl, fun h h0 => hnl h (List.eq_nil_of_length_eq_zero h0), by simp⟩ ⟨_, drew_alloc_new w _, hC, hle⟩ (fun c2 ty2 fz2 hc2 => by
      rw [drew_alloc_new] at hc2
      cases hc2
      exact fun i y hy => (hdat i y hy).mono (fun _ h => h) (fun b hb => drew_alloc_old w _ (hm.fzlt b hb)))
  refine ⟨⟨fun base => ?_, hg.mem, hg.free, hg.keep, hg.dom, fun b hb => drew_alloc_old w _ hb⟩, .mk1 (.own (Env.put_at _ _ _) hcap (Nat.le_refl _) (by simp)) rfl (by simp) rfl⟩
  have := hg.step base
  exact ⟨this.os, this.tape, this.output, this.size, this.fz, this.fzs, this.frame, this.fznew, this.keep, this.new⟩

theorem room_ok {n m bytes : Nat} (h : room (nadd n m) bytes = true) : n + m ≤ 2 ^ 44 ∧ (n + m) * bytes ≤ 2 ^ 44 := of_decide_eq_true h
theorem room_ok' {n bytes : Nat} (h : room n bytes = true) : n ≤ 2 ^ 44 ∧ n * bytes ≤ 2 ^ 44 := of_decide_eq_true h

variable {R : Type} {r : R}

theorem appendE_sound (T : TabOk P) {o : Oper} {st : St} {c : Call} (ho : o.op = .call c) (hc : c.callee = .builtin .append) {t : TypeId} (hty : c.argTypes.toList = [t, t]) {s x : A} (hargs : c.args.toList.map (ev st) = [s, x])
    {fl base : Nat} (hbl : base ≤ st.obs.length) {K : A → St → Option R} (h : appendE P base t st s x K = some r) {Γ : Env} {w : World} {act : Act} (hr : Rel P fl st Γ w act) (hfb : fl ≤ base) {N : Act → World → Prop} {Q : Exit → Act → World → Prop}
    (hN : ∀ a st' Γ' w' v, K a st' = some r → VRel P w' Γ' a v → Rel P fl st' Γ' w' act → st.obs.length ≤ st'.obs.length → Step base Γ Γ' w w' → N (act.put o.dst v) w') : o.wp P act w N Q := by
  obtain ⟨p1, p2, hab, rfl, rfl⟩ := args_two hargs
  have hat : c.argTypes = #[t, t] := by
    cases hq : c.argTypes with
    | mk l => rw [hq] at hty; simp at hty; rw [hty]
  have hrunT : ∀ v w', (Builtin.append_ #[t, t] o.type #[act.eval p1, act.eval p2]).run P w = .ok v w' → N (act.put o.dst v) w' → o.wp P act w N Q := fun v w' hrun hn => by
    obtain ⟨cs, h1⟩ := run_builtin (P := P) (w := w) (act := act) ho hc
    unfold Oper.wp
    rw [h1]
    simp only [builtin, hab, hat]
    have e : (Array.map act.eval #[p1, p2]) = #[act.eval p1, act.eval p2] := by simp
    rw [e]
    simp only [Sem.run_bind, hrun, Result.andThen_ok, Sem.run_pure]
    exact hn
  have hs := hr.ev p1
  have hx := hr.ev p2
  unfold appendE at h
  split at h
  · rename_i e hk
    split at h
    · cases h
    · rename_i hc0
      simp at hc0
      obtain ⟨h0, hp⟩ := hc0
      have hu := (ty_slice hk).2
      obtain ⟨i, z, hi, hz, hd, _⟩ := zero_ok T hp
      have hsz : i.size = P.cellsOf e := by simp [Program.cellsOf, hi]
      have hby : i.bytes = P.bytesOf e := by simp [Program.bytesOf, hi]
      have hzl : z.cells.size = P.cellsOf e := by simpa using (hd default (fun _ => False)).len T (plain_lt hp)
      split at h
      · cases h
      · rename_i xs hxs
        obtain ⟨q, cx, hvx, hq0, hqs⟩ := srcE_rel T hr.mem hxs hx
        have hdom : ∀ n, st.obs.length ≤ n → Γ.β n = none := fun n hn => by
          cases hb : Γ.β n with
          | none => rfl
          | some q => have := hr.mem.lt hb; omega
        split at h
        · -- onto nothing
          rename_i hsn
          rw [hsn] at hs
          have hs := hs.one (by simp) rfl (by simp)
          generalize hve : act.eval p1 = ve at hs
          cases hs
          rcases cnd_some h with ⟨hroom, h⟩ | ⟨_, h⟩
          · obtain ⟨hr1, hr2⟩ := room_ok' hroom
            have hwk := Wk.append st.obs [Ob.arr e xs true false true]
            have hob : (st.obs ++ [Ob.arr e xs true false true])[st.obs.length]? = some (.arr e xs true false true) := by simp
            have hfree := hr.free.wk hwk (fun o ho => by
              cases hb : Γ.β o with
              | none => exact absurd hb ho
              | some q => exact hr.mem.lt hb)
            by_cases hxe : xs = []
            · subst hxe
              refine hrunT (.slice none 0 0) w (by rw [hve, hvx]; exact run_append_zero hu hi (Nat.le_refl _)) ?_
              have hg := Grow.nil (hr.mem.wk hwk) st.obs.length (hdom _ (Nat.le_refl _)) e false true hob
              refine hN _ _ _ w _ h (.mk1 (.ownNil (Env.put_at _ _ _)) rfl (by simp) rfl) ?_ (by simp) (hg.step base)
              exact ⟨hg.mem, hg.free fl hfree, fun t => (hr.tmps t).ext (fun _ _ => trivial) hg.ext, hr.size, hr.ndef⟩
            · obtain ⟨a, rfl⟩ : ∃ a, q = some a := by cases q with | none => exact absurd (hq0 rfl) hxe | some a => exact ⟨a, rfl⟩
              obtain ⟨news, hsrc⟩ := hqs a rfl
              have hpos : 0 < xs.length := List.length_pos_iff.2 hxe
              have hrun := run_append_nil (P := P) w t o.type e i z hu hi hz a xs.length cx news (by rw [hsz]; exact hsrc.len) hsrc.cells hpos (by have : (len xs : Nat) = xs.length := rfl; omega) (by rw [hby]; have : (len xs : Nat) = xs.length := rfl; rw [this] at hr2; omega)
              refine hrunT _ _ (by rw [hve, hvx]; exact hrun) ?_
              have hge := grownCap_ge w xs.length 0 e
              have hsize : (news.toArray ++ Builtin.zeroCells z.cells (grownCap w xs.length 0 e - xs.length)).size = grownCap w xs.length 0 e * P.cellsOf e := by
                simp only [Array.size_append, List.size_toArray, size_zeroCells, hzl, hsrc.len, ← Nat.add_mul]
                congr 1; omega
              have hdat := new_cells (P := P) (w := w) (e := e) (es := []) (xs := xs) (olds := []) (news := news) (rest := Builtin.zeroCells z.cells (grownCap w xs.length 0 e - xs.length)) (Fz := Γ.Fz) (by simp) hsrc.len (fun i y h => by simp at h) hsrc.data
              have e0 : (([] : List Value).toArray ++ news.toArray ++ Builtin.zeroCells z.cells (grownCap w xs.length 0 e - xs.length)) = news.toArray ++ Builtin.zeroCells z.cells (grownCap w xs.length 0 e - xs.length) := by simp
              rw [e0] at hdat
              obtain ⟨hg, hval⟩ := grow_block (hr.mem.wk hwk) (hdom _ (Nat.le_refl _)) hob _ _ hsize hge (fun _ => hxe) hdat
              refine hN _ _ _ _ _ h hval ?_ (by simp) (hg.step base)
              exact ⟨hg.mem, hg.free fl hfree, fun t => (hr.tmps t).ext (fun _ _ => trivial) hg.ext, hr.size, hr.ndef⟩
          · cases h
        · -- onto a snapshot
          rename_i e' nil es f hsn
          split at h
          · rename_i hee
            have hee : e = e' := by simpa using hee
            subst hee
            rw [hsn] at hs
            have hs := hs.one (by simp) rfl (by simp)
            generalize hve : act.eval p1 = ve at hs
            rcases cnd_some h with ⟨hnf, h⟩ | ⟨_, h⟩
            · rcases cnd_some h with ⟨hroom, h⟩ | ⟨_, h⟩
              · obtain ⟨hr1, hr2⟩ := room_ok hroom
                have hl1 : len es = es.length := rfl
                have hl2 : len xs = xs.length := rfl
                rw [hl1, hl2] at hr1 hr2
                -- the same slice, where nothing is appended
                have same : ∀ v, act.eval p1 = v → CRel P w Γ (.snap e nil es f) [v] → xs = [] → (∃ b n cap, v = .slice b n cap ∧ n ≤ cap) → o.wp P act w N Q := fun v hv1 hcr hxe ⟨b, n, cap, hvs, hn⟩ => by
                  subst hxe
                  refine hrunT v w (by rw [hv1, hvs, hvx]; exact run_append_zero hu hi hn) ?_
                  have hcr' : CRel P w Γ (.snap e (band_ nil (empty [])) (app es []) false) [v] := by
                    have e1 : app es [] = es := by simp [app]
                    have e2 : band_ nil (empty []) = nil := by cases nil <;> rfl
                    rw [e1, e2]
                    cases hcr with
                    | snapNil hn he => exact .snapNil hn he
                    | snapE hn he => exact .snapE hn he
                    | snap a1 a2 a3 a4 a5 css a6 a7 => exact .snap a1 a2 a3 a4 (by simp) css a6 a7
                  exact hN _ _ Γ w v h (.mk1 hcr' rfl (by simp) (by rw [hvs]; rfl)) hr (Nat.le_refl _) (Step.refl _ _ _)
                -- a new array
                have fresh : ∀ (olds : List Value) (C : Array Value) (cap : Nat) (v : Value), olds.length = es.length * P.cellsOf e → (∀ (i : Nat) y, es[i]? = some y → DRel P w Γ.Fz e y ((olds.drop (i * P.cellsOf e)).take (P.cellsOf e))) → ∀ (news : List Value) (rest : Array Value), news.length = xs.length * P.cellsOf e →
                    (∀ (i : Nat) y, xs[i]? = some y → DRel P w Γ.Fz e y ((news.drop (i * P.cellsOf e)).take (P.cellsOf e))) → C = olds.toArray ++ news.toArray ++ rest → es.length + xs.length ≤ cap → xs ≠ [] →
                    v = .slice (some ⟨w.heap.size, 0, none⟩) (es.length + xs.length) cap → (Builtin.append_ #[t, t] o.type #[act.eval p1, act.eval p2]).run P w = .ok v (w.drew.alloc (.cells C e)) → o.wp P act w N Q := fun olds C cap v ho' hod news rest hn' hnd hC hcap hxe hv hrun => by
                  refine hrunT v _ hrun ?_
                  have hq : Quiet w (w.drew.alloc (.cells C e)) := ⟨rfl, rfl, rfl, by simp, fun b hb => drew_alloc_old w _ hb⟩
                  have hnone : Γ.β st.obs.length = none := hdom _ (Nat.le_refl _)
                  have hg0 := Grow.call hr.mem hq (Fz' := fun b => Γ.Fz b ∨ b = w.heap.size) (fun b hb => .inl hb) (fun b hb => hb.imp id fun h => ⟨by omega, by subst h; simp⟩) st.obs.length hnone none (fun q hq => by cases hq)
                  have hdat := new_cells (P := P) (w := w) (e := e) (es := es) (xs := xs) (olds := olds) (news := news) (rest := rest) (Fz := Γ.Fz) ho' hn' hod hnd
                  rw [← hC] at hdat
                  have hCs : (es.length + xs.length) * P.cellsOf e ≤ C.size := by
                    rw [hC]; simp [ho', hn', Nat.add_mul]
                  have hlen : (app es xs).length = es.length + xs.length := by simp [app]
                  have hcr : CRel P (w.drew.alloc (.cells C e)) (Γ.after (fun b => Γ.Fz b ∨ b = w.heap.size) st.obs.length none) (.snap e (band_ nil (empty xs)) (app es xs) false) [v] := by
                    rw [hv]
                    refine .snap ?_ (.inr rfl) hlen hcap (by simp) (fun i => cellsIn C (i * P.cellsOf e) (P.cellsOf e)) (fun i hi => ?_) (fun i y hy => ?_)
                    · have : empty xs = false := by cases xs with | nil => exact absurd rfl hxe | cons => rfl
                      rw [this]; cases nil <;> rfl
                    · have hle : (i + 1) * P.cellsOf e ≤ (es.length + xs.length) * P.cellsOf e := Nat.mul_le_mul_right _ hi
                      rw [Nat.add_mul, Nat.one_mul] at hle
                      exact ⟨cellsIn_length (by omega), by rw [Nat.zero_add]; exact cellsIn_at (drew_alloc_new w _) _ _⟩
                    · exact (hdat i y hy).mono (fun _ h => .inl h) (fun b hb => drew_alloc_old w _ (hr.mem.fzlt b hb))
                  refine hN _ _ _ _ v h (.mk1 hcr rfl (by simp) (by rw [hv]; rfl)) ?_ (Nat.le_refl _) (hg0.step base)
                  exact ⟨hg0.mem, hg0.free fl hr.free, fun t => (hr.tmps t).ext (fun _ _ => trivial) hg0.ext, hr.size, hr.ndef⟩
                by_cases hxe : xs = []
                · cases hs with
                  | snapNil hn he => exact same _ hve (.snapNil hn he) hxe ⟨_, _, _, rfl, Nat.le_refl _⟩
                  | snapE hn he => exact same _ hve (.snapE hn he) hxe ⟨_, _, _, rfl, Nat.le_refl _⟩
                  | snap a1 a2 a3 a4 a5 css a6 a7 => exact same _ hve (.snap a1 a2 a3 a4 a5 css a6 a7) hxe ⟨_, _, _, rfl, a4⟩
                · obtain ⟨a, rfl⟩ : ∃ a, q = some a := by cases q with | none => exact absurd (hq0 rfl) hxe | some a => exact ⟨a, rfl⟩
                  obtain ⟨news, hsrc⟩ := hqs a rfl
                  have hpos : 0 < xs.length := List.length_pos_iff.2 hxe
                  cases hs with
                  | snapNil hn he =>
                    subst he
                    simp at hr1 hr2
                    have hrun := run_append_nil (P := P) w t o.type e i z hu hi hz a xs.length cx news (by rw [hsz]; exact hsrc.len) hsrc.cells hpos (by omega) (by rw [hby]; omega)
                    have hge := grownCap_ge w xs.length 0 e
                    refine fresh [] (news.toArray ++ Builtin.zeroCells z.cells (grownCap w xs.length 0 e - xs.length)) (grownCap w xs.length 0 e) (.slice (some ⟨w.heap.size, 0, none⟩) (([] : List D).length + xs.length) (grownCap w xs.length 0 e)) (by simp) (fun i y h => by simp at h) news
                      (Builtin.zeroCells z.cells (grownCap w xs.length 0 e - xs.length)) hsrc.len hsrc.data (by simp) (by simpa using hge) hxe rfl ?_
                    rw [hve, hvx, hrun]
                    simp
                  | snapE hn he =>
                    rename_i a0
                    subst he
                    simp at hr1 hr2
                    have hrun := run_append_grow (P := P) w t o.type e i z hu hi hz a0 0 0 [] (by simp) (fun j v h => by simp at h) a xs.length cx news (by rw [hsz]; exact hsrc.len) hsrc.cells (by omega) (by omega)
                      (growslice_fits (by omega) (by rw [hby, Nat.zero_add]; omega))
                    have hge := grownCap_ge w (0 + xs.length) 0 e
                    exact fresh [] _ (grownCap w (0 + xs.length) 0 e) _ (by simp) (fun i y h => by simp at h) news (Builtin.zeroCells z.cells (grownCap w (0 + xs.length) 0 e - (0 + xs.length))) hsrc.len hsrc.data rfl (by simpa using hge) hxe rfl (by rw [hve, hvx]; exact hrun)
                  | snap a1 a2 a3 a4 a5 css a6 a7 =>
                    rename_i b off n cap
                    subst a3
                    have hcap : cap = es.length := by
                      have hf : f = true := by rw [a1] at hnf; exact hnf
                      exact a5 hf
                    subst hcap
                    obtain ⟨olds, o1, o2, o3⟩ := flat_cells (w := w) css es.length a6
                    have hrun := run_append_grow (P := P) w t o.type e i z hu hi hz ⟨b, off, none⟩ es.length es.length olds (by rw [hsz]; exact o1) (cells_add o2) a xs.length cx news (by rw [hsz]; exact hsrc.len) hsrc.cells (by omega) (by omega)
                      (growslice_fits (by omega) (by rw [hby]; omega))
                    have hge := grownCap_ge w (es.length + xs.length) es.length e
                    exact fresh olds _ (grownCap w (es.length + xs.length) es.length e) _ o1 (fun i y hy => by rw [o3 i (List.getElem?_eq_some_iff.1 hy).1]; exact a7 i y hy) news (Builtin.zeroCells z.cells (grownCap w (es.length + xs.length) es.length e - (es.length + xs.length))) hsrc.len hsrc.data rfl hge hxe rfl (by rw [hve, hvx]; exact hrun)
              · cases h
            · cases h
          · cases h
        · -- onto an array that may be written
          rename_i q0 hsn
          split at h
          · rename_i e' es n0 f0 hob
            split at h
            · rename_i hcc
              simp only [Bool.and_eq_true, beq_iff_eq, decide_eq_true_eq] at hcc
              obtain ⟨hee, hb0⟩ := hcc
              subst hee
              rw [hsn] at hs
              have hs := hs.one (by simp) rfl (by simp)
              generalize hve : act.eval p1 = ve at hs
              rcases cnd_some h with ⟨hroom, h⟩ | ⟨_, h⟩
              · obtain ⟨hr1, hr2⟩ := room_ok hroom
                have hl1 : len es = es.length := rfl
                have hl2 : len xs = xs.length := rfl
                rw [hl1, hl2] at hr1 hr2
                have hstlen : st.obs.length ≤ ((st.obs.map (sweepO q0)).set q0 (.arr e (app es xs) n0 false true)).length := by simp
                have hlen : (app es xs).length = es.length + xs.length := by simp [app]
                have fin : ∀ {p0 p : Place} {w' : World} {v : Value}, Γ.β q0 = some p0 → p0.elem = some e → (Builtin.append_ #[t, t] o.type #[act.eval p1, act.eval p2]).run P w = .ok v w' →
                    (w'.os = w.os ∧ w'.tape = w.tape ∧ w'.output = w.output) → w.heap.size ≤ w'.heap.size → (∀ k, k < w.heap.size → p0.block ≠ some k → w'.heap[k]? = w.heap[k]?) →
                    (∀ b, p.block = some b → p0.block = some b ∨ w.heap.size ≤ b) → Shape (.arr e (app es xs) n0 false true) p → Backed P w' p → (∀ Γ', Γ'.Fz = Γ.Fz → Content P w' Γ' (.arr e (app es xs) n0 false true) p) →
                    (∀ Γ', Γ'.β q0 = some p → CRel P w' Γ' (.own q0) [v]) → (∃ a n c, v = .slice a n c) → o.wp P act w N Q := fun {p0 p w' v} h0' hel hrun hos hszw hfr hpb hsh hbk hcon hval hvs => by
                  have hnf : ∀ b, p0.block = some b → ¬ Γ.Fz b := fun b hb => hr.free q0 p0 b _ (by omega) h0' hb hob rfl
                  obtain ⟨g1, g2⟩ := hr.regrow (base := base) h0' ⟨e, hel⟩ hb0 hos hszw hfr hnf (fun b hb => ⟨fun hf => by
                    rcases hpb b hb with h | h
                    · exact hnf b h hf
                    · have := hr.mem.fzlt b hf; omega, hpb b hb⟩) hsh hbk (hcon _ rfl)
                  refine hrunT v w' hrun ?_
                  refine hN _ _ _ w' v h (.mk1 (hval _ (Env.put_at _ _ _)) rfl (by simp) ?_) g1 hstlen g2
                  obtain ⟨a, n, c, rfl⟩ := hvs
                  rfl
                by_cases hxe : xs = []
                · subst hxe
                  have e1 : app es [] = es := by simp [app]
                  have hm0 := hr.mem
                  cases hs with
                  | ownNil hp =>
                    obtain ⟨hsh, hbk, hct⟩ := hm0.at (Wk.refl _) hp hob
                    refine fin hp (by rw [hsh.1]; rfl) (by rw [hve, hvx]; exact run_append_zero hu hi (Nat.le_refl _)) ⟨rfl, rfl, rfl⟩ (Nat.le_refl _) (fun _ _ _ => rfl) (fun b hb => .inl hb) (by rw [e1]; exact hsh) hbk (fun _ _ => by rw [← hsh.1]; trivial) (fun Γ' hp' => .ownNil hp') ⟨_, _, _, rfl⟩
                  | own hp hc hs hf =>
                    obtain ⟨hsh, hbk, hct⟩ := hm0.at (Wk.refl _) hp hob
                    have hct := hct trivial
                    obtain ⟨he', hsl, hsn2, hsf⟩ := hsh
                    refine fin hp (by rw [he']; rfl) (by rw [hve, hvx]; exact run_append_zero hu hi hc) ⟨rfl, rfl, rfl⟩ (Nat.le_refl _) (fun _ _ _ => rfl) (fun b hb => .inl hb) (by rw [e1]; exact ⟨he', hsl, hsn2, by simp⟩) hbk (fun Γ' hF => ?_) (fun Γ' hp' => .own hp' hc hs hf) ⟨_, _, _, rfl⟩
                    intro c' ty fz hc' i y hy
                    rw [e1] at hy
                    rw [hF]
                    exact hct c' ty fz hc' i y hy
                · obtain ⟨a, rfl⟩ : ∃ a, q = some a := by cases q with | none => exact absurd (hq0 rfl) hxe | some a => exact ⟨a, rfl⟩
                  obtain ⟨news, hsrc⟩ := hqs a rfl
                  have hpos : 0 < xs.length := List.length_pos_iff.2 hxe
                  have hsize2 : ∀ C : Array Value, ∀ cap, C.size = cap * P.cellsOf e → (app es xs).length ≤ cap → (app es xs).length * P.cellsOf e ≤ C.size := fun C cap h1 h2 => by
                    rw [h1]; exact Nat.mul_le_mul_right _ h2
                  cases hs with
                  | ownNil hp =>
                    obtain ⟨he', hn2, hes⟩ := (hr.mem.at (Wk.refl _) hp hob).1
                    subst hes
                    have el0 : (([] : List D)).length = 0 := rfl
                    rw [el0, Nat.zero_add] at hr1 hr2
                    have hrun := run_append_nil (P := P) w t o.type e i z hu hi hz a xs.length cx news (by rw [hsz]; exact hsrc.len) hsrc.cells hpos (by omega) (by rw [hby]; omega)
                    have hge := grownCap_ge w xs.length 0 e
                    have hCs : (news.toArray ++ Builtin.zeroCells z.cells (grownCap w xs.length 0 e - xs.length)).size = grownCap w xs.length 0 e * P.cellsOf e := by
                      simp only [Array.size_append, List.size_toArray, size_zeroCells, hzl, hsrc.len, ← Nat.add_mul]
                      congr 1; omega
                    have hdat := new_cells (P := P) (w := w) (e := e) (es := []) (xs := xs) (olds := []) (news := news) (rest := Builtin.zeroCells z.cells (grownCap w xs.length 0 e - xs.length)) (Fz := Γ.Fz) (by simp) hsrc.len (fun i y h => by simp at h) hsrc.data
                    have e0 : (([] : List Value).toArray ++ news.toArray ++ Builtin.zeroCells z.cells (grownCap w xs.length 0 e - xs.length)) = news.toArray ++ Builtin.zeroCells z.cells (grownCap w xs.length 0 e - xs.length) := by simp
                    rw [e0] at hdat
                    have hl3 : (app [] xs).length = xs.length := by simp [app]
                    refine fin (p := .arr w.heap.size xs.length (grownCap w xs.length 0 e * P.cellsOf e) e false) (w' := w.drew.alloc (.cells (news.toArray ++ Builtin.zeroCells z.cells (grownCap w xs.length 0 e - xs.length)) e)) hp (by rw [he']; rfl) (by rw [hve, hvx]; exact hrun) ⟨rfl, rfl, rfl⟩ (by simp) (fun k hk _ => drew_alloc_old w _ hk) (fun b hb => .inr (by simp [Place.block] at hb; omega))
                      ⟨rfl, hl3, fun _ => by omega, by simp⟩ ⟨_, drew_alloc_new w _, hCs, Nat.mul_le_mul_right _ hge⟩ (fun Γ' hF => ?_) (fun Γ' hp' => .own hp' hge (Nat.le_refl _) (by simp)) ⟨_, _, _, rfl⟩
                    intro c' ty fz hc' j y hy
                    rw [drew_alloc_new] at hc'; cases hc'
                    rw [hF]
                    exact (hdat j y hy).mono (fun _ h => h) (fun b hb => drew_alloc_old w _ (hr.mem.fzlt b hb))
                  | own hp hcn hcs hcf =>
                    rename_i b k size e2 full cap
                    obtain ⟨hsh, ⟨c0, hcell, hc0s, hc0l⟩, hct⟩ := hr.mem.at (Wk.refl _) hp hob
                    obtain ⟨rfl, hsl, hsn2, hsf⟩ := hsh
                    have hct := hct trivial c0 _ _ hcell
                    have hfit0 : k * P.cellsOf e ≤ cap * P.cellsOf e := Nat.mul_le_mul_right _ hcn
                    by_cases hroomc : k + xs.length ≤ cap
                    · have hle : (k + xs.length) * P.cellsOf e ≤ cap * P.cellsOf e := Nat.mul_le_mul_right _ hroomc
                      rw [Nat.add_mul] at hle
                      have hsl' := hsrc.len
                      have hrun := run_append_room (P := P) w t o.type e i hu hi b k cap c0 hcell a xs.length cx news (by rw [hsz]; exact hsrc.len) hsrc.cells hsrc.one hroomc (by rw [hsz]; omega)
                      rw [hsz] at hrun
                      have hfit : k * P.cellsOf e + news.length ≤ c0.toList.length := by simp; omega
                      have hblk := setRow_heap w b c0 (c0.toList.take (k * P.cellsOf e) ++ news ++ c0.toList.drop (k * P.cellsOf e + news.length)).toArray e (0, 0) hcell
                      have hnfz : ¬ Γ.Fz b := hr.free q0 _ b _ (by omega) hp rfl hob rfl
                      refine fin (p := .arr b (k + xs.length) size e false) (w' := w.setRow b (c0.toList.take (k * P.cellsOf e) ++ news ++ c0.toList.drop (k * P.cellsOf e + news.length)).toArray) hp rfl (by rw [hve, hvx]; exact hrun) ⟨rfl, rfl, rfl⟩ (by simp) (fun j hj hne => setRow_other w b j _ (fun h => hne (by rw [h]; rfl))) (fun b' hb => .inl hb)
                        ⟨rfl, by rw [hlen, hsl], fun h => by have := hsn2 h; omega, by simp⟩ ⟨_, hblk, ?_, by rw [Nat.add_mul]; omega⟩ (fun Γ' hF => ?_) (fun Γ' hp' => .own hp' hroomc hcs (by simp)) ⟨_, _, _, rfl⟩
                      · have := ow_length hfit
                        unfold ow at this
                        simp only [List.size_toArray]
                        rw [this]; simpa using hc0s
                      · intro c' ty fz hc' j y hy
                        rw [hblk] at hc'; cases hc'
                        rw [hF]
                        have hmono : DRel P w Γ.Fz e y (((ow c0.toList (k * P.cellsOf e) news).drop (j * P.cellsOf e)).take (P.cellsOf e)) := by
                          unfold app at hy
                          by_cases hj : j < es.length
                          · rw [List.getElem?_append_left hj] at hy
                            have hle2 : (j + 1) * P.cellsOf e ≤ k * P.cellsOf e := Nat.mul_le_mul_right _ (by omega)
                            rw [Nat.add_mul, Nat.one_mul] at hle2
                            rw [ow_apart hfit (.inl hle2)]
                            exact hct j y hy
                          · rw [List.getElem?_append_right (by omega)] at hy
                            have hj2 : j - es.length < xs.length := (List.getElem?_eq_some_iff.1 hy).1
                            have hle2 : (j - es.length + 1) * P.cellsOf e ≤ xs.length * P.cellsOf e := Nat.mul_le_mul_right _ hj2
                            rw [Nat.add_mul, Nat.one_mul] at hle2
                            have e1 : j * P.cellsOf e = k * P.cellsOf e + (j - es.length) * P.cellsOf e := by rw [← Nat.add_mul]; congr 1; omega
                            have e2 : ((ow c0.toList (k * P.cellsOf e) news).drop (j * P.cellsOf e)).take (P.cellsOf e) = (news.drop ((j - es.length) * P.cellsOf e)).take (P.cellsOf e) := by
                              apply List.ext_getElem?
                              intro m
                              simp only [List.getElem?_take, List.getElem?_drop]
                              split
                              · rw [ow_get hfit, if_neg (by omega), if_pos (by omega)]
                                congr 1; omega
                              · rfl
                            rw [e2]
                            exact hsrc.data _ y hy
                        exact hmono.mono (fun _ h => h) (fun b' hb => setRow_other w b b' _ (by rintro rfl; exact hnfz hb))
                    · have hcut : ∀ j u, (cellsIn c0 0 (k * P.cellsOf e))[j]? = some u → w.cell? ((⟨b, 0, none⟩ : Addr).add j) = some u := cells_add (cellsIn_at hcell 0 _)
                      have holen : (cellsIn c0 0 (k * P.cellsOf e)).length = k * P.cellsOf e := cellsIn_length (by omega)
                      have hrun := run_append_grow (P := P) w t o.type e i z hu hi hz ⟨b, 0, none⟩ k cap (cellsIn c0 0 (k * P.cellsOf e)) (by rw [hsz]; exact holen) hcut a xs.length cx news (by rw [hsz]; exact hsrc.len) hsrc.cells (by omega) (by omega)
                        (growslice_fits (by omega) (by rw [hby, ← hsl]; omega))
                      have hge := grownCap_ge w (k + xs.length) cap e
                      have hCs : ((cellsIn c0 0 (k * P.cellsOf e)).toArray ++ news.toArray ++ Builtin.zeroCells z.cells (grownCap w (k + xs.length) cap e - (k + xs.length))).size = grownCap w (k + xs.length) cap e * P.cellsOf e := by
                        simp only [Array.size_append, List.size_toArray, size_zeroCells, hzl, hsrc.len, holen, ← Nat.add_mul]
                        congr 1; omega
                      have hdat := new_cells (P := P) (w := w) (e := e) (es := es) (xs := xs) (olds := cellsIn c0 0 (k * P.cellsOf e)) (news := news) (rest := Builtin.zeroCells z.cells (grownCap w (k + xs.length) cap e - (k + xs.length))) (Fz := Γ.Fz) (by rw [holen, hsl]) hsrc.len (fun j y hy => by
                        have hj := (List.getElem?_eq_some_iff.1 hy).1
                        have hle2 : (j + 1) * P.cellsOf e ≤ k * P.cellsOf e := Nat.mul_le_mul_right _ (by omega)
                        rw [Nat.add_mul, Nat.one_mul] at hle2
                        have := hct j y hy
                        unfold cellsIn at this ⊢
                        rw [cut_cut _ _ _ _ _ hle2, Nat.zero_add]
                        exact this) hsrc.data
                      refine fin (p := .arr w.heap.size (k + xs.length) (grownCap w (k + xs.length) cap e * P.cellsOf e) e false) (w' := w.drew.alloc (.cells ((cellsIn c0 0 (k * P.cellsOf e)).toArray ++ news.toArray ++ Builtin.zeroCells z.cells (grownCap w (k + xs.length) cap e - (k + xs.length))) e)) hp rfl (by rw [hve, hvx]; exact hrun) ⟨rfl, rfl, rfl⟩ (by simp) (fun j hj _ => drew_alloc_old w _ hj) (fun b' hb => .inr (by simp [Place.block] at hb; omega))
                        ⟨rfl, by rw [hlen, hsl], fun h => by omega, by simp⟩ ⟨_, drew_alloc_new w _, hCs, Nat.mul_le_mul_right _ hge⟩ (fun Γ' hF => ?_) (fun Γ' hp' => .own hp' hge (Nat.le_refl _) (by simp)) ⟨_, _, _, rfl⟩
                      intro c' ty fz hc' j y hy
                      rw [drew_alloc_new] at hc'; cases hc'
                      rw [hF]
                      exact (hdat j y hy).mono (fun _ h => h) (fun b' hb => drew_alloc_old w _ (hr.mem.fzlt b' hb))
              · cases h
            · cases h
          · cases h
        · cases h
  · cases h

end
end Go.Ev
