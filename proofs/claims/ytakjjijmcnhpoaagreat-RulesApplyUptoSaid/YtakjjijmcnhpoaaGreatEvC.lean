/- The evaluator E: values, one by one. The evaluator E: zero values, data out of values, parts. The evaluator E: data out of values, what is frozen, loads. The evaluator E: values that fit, cells, loads and stores of the machine, parts. -/
import Derived.Test.YtakjjijmcnhpoaaGreatEvB
namespace Go.Ev
open Go

section
variable {P : Program} {w : World} {Γ : Env}

theorem cells_one {v : Value} (h : ∀ x, v ≠ .agg x) : v.cells = #[v] := by
  cases v <;> first | rfl | exact absurd rfl (h _)
theorem VShape.cells {a : A} {v : Value} (h : VShape a v) (ha : a.isS = false) : v.cells = #[v] := by
  apply cells_one
  intro x e
  subst e
  simp [VShape, ha] at h
theorem VRel1.one {a : A} {v : Value} (h : VRel1 P w Γ a v) (hj : a ≠ .junk) (hs : a.isS = false) : CRel P w Γ a [v] ∧ VShape a v := by
  rcases h with h | ⟨h, h'⟩
  · exact absurd h hj
  · rw [h'.cells hs] at h
    exact ⟨h, h'⟩
theorem VRel1.agg {a : A} {v : Value} (h : VRel1 P w Γ a v) (hs : a.isS = true) : ∃ cs : Array Value, v = .agg cs ∧ CRel P w Γ a cs.toList := by
  rcases h with h | ⟨h, h'⟩
  · subst h; cases hs
  · cases v with
    | agg cs => exact ⟨cs, rfl, h⟩
    | tuple vs => exact h'.elim
    | _ => simp [VShape, hs] at h'
theorem VRel.of1 {a : A} {v : Value} (h : VRel1 P w Γ a v) (ht : ∀ vs, a ≠ .tup vs) : VRel P w Γ a v := by
  unfold VRel
  split
  · exact absurd rfl (ht _)
  · exact h
theorem VRel.to1 {a : A} {v : Value} (h : VRel P w Γ a v) (ht : ∀ vs, a ≠ .tup vs) : VRel1 P w Γ a v := by
  unfold VRel at h
  split at h
  · exact absurd rfl (ht _)
  · exact h
theorem VRel.one {a : A} {v : Value} (h : VRel P w Γ a v) (hj : a ≠ .junk) (hs : a.isS = false) (ht : ∀ vs, a ≠ .tup vs) : CRel P w Γ a [v] := ((h.to1 ht).one hj hs).1
theorem VRel.mk1 {a : A} {v : Value} (h : CRel P w Γ a [v]) (hs : a.isS = false) (ht : ∀ vs, a ≠ .tup vs) (hv : VShape a v) : VRel P w Γ a v :=
  .of1 (.inr ⟨by rw [hv.cells hs]; exact h, hv⟩) ht
theorem VRel.mkS {a : A} {cs : Array Value} (h : CRel P w Γ a cs.toList) (hs : a.isS = true) (ht : ∀ vs, a ≠ .tup vs) : VRel P w Γ a (.agg cs) :=
  .of1 (.inr ⟨h, hs⟩) ht
theorem VRel.junk {v : Value} : VRel P w Γ .junk v := .of1 (.inl rfl) (by simp)

theorem VRel.int {k n} {v : Value} (h : VRel P w Γ (.int k n) v) : v = .int k n := by
  have := h.one (by simp) rfl (by simp); cases this; rfl
theorem VRel.bool {b} {v : Value} (h : VRel P w Γ (.bool b) v) : v = .bool b := by
  have := h.one (by simp) rfl (by simp); cases this; rfl
theorem VRel.str {l} {v : Value} (h : VRel P w Γ (.str l) v) : ∃ s : ByteArray, v = .string s ∧ l = s.data.toList := by
  have := h.one (by simp) rfl (by simp); cases this with | str h1 => exact ⟨_, rfl, h1⟩
theorem VRel.mkInt {k n} : VRel P w Γ (.int k n) (.int k n) := .mk1 .int rfl (by simp) rfl
theorem VRel.mkBool {b} : VRel P w Γ (.bool b) (.bool b) := .mk1 .bool rfl (by simp) rfl
theorem VRel.mkStr {s : ByteArray} : VRel P w Γ (.str s.data.toList) (.string s) := .mk1 (.str rfl) rfl (by simp) rfl

/-- A temporary of a value is one of it. -/
theorem ofConst_rel (v : Value) : VRel P w Γ (ofConst v) v := by
  cases v with
  | int k n => exact .mkInt
  | bool b => exact .mkBool
  | string s => exact .mkStr
  | slice a l c =>
    cases a with
    | none =>
      unfold ofConst
      split
      · simp_all
      · simp_all
      · simp_all
      · rename_i h; cases h; exact .mk1 .nsl rfl (by simp) rfl
      · simp_all
      · exact .junk
    | some a => exact .junk
  | pointer a =>
    cases a with
    | none => show VRel P w Γ .nptr _; exact .mk1 .nptr rfl (by simp) rfl
    | some a => exact .junk
  | _ => exact .junk


/-! ### Cells, lengths, types -/
theorem DRel.oneC {Fz : Nat → Prop} {t : TypeId} {d : D} {cs : List Value} (h : DRel P w Fz t d cs) : ∀ v ∈ cs, v.oneCell' = true := by
  cases h with
  | st _ _ ho => exact ho
  | _ => intro v hv; simp at hv; subst hv; rfl
theorem CRel.oneC {a : A} {cs : List Value} (h : CRel P w Γ a cs) : ∀ v ∈ cs, v.oneCell' = true := by
  cases h with
  | junk h => exact h
  | dat _ h => exact h.oneC
  | st _ _ _ ho => exact ho
  | _ => intro v hv; simp at hv; subst hv; rfl
theorem DRel.len (T : TabOk P) {Fz : Nat → Prop} {t : TypeId} {d : D} {cs : List Value} (h : DRel P w Fz t d cs) (ht : t < P.types.size) : cs.length = P.cellsOf t := by
  cases h with
  | st _ hl => exact hl
  | int h => simp [T.one ht h trivial]
  | bool h => simp [T.one ht h trivial]
  | str h => simp [T.one ht h trivial]
  | nil h => simp [T.one ht h trivial]
  | slE h => simp [T.one ht h trivial]
  | sl h => simp [T.one ht h trivial]
theorem plain_lt {n : Nat} {t : TypeId} (h : plainT P n t = true) : t < P.types.size := by
  cases n with
  | zero => simp [plainT] at h
  | succ n =>
    have : ty P t ≠ .other := by intro e; simp [plainT, e] at h
    exact (ty_lt rfl this).1
theorem mk_rel {t : TypeId} {d : D} {cs : List Value} (h : DRel P w Γ.Fz t d cs) : CRel P w Γ (mk P t d) cs := by
  unfold mk
  split
  · rename_i k hk
    obtain ⟨_, hu⟩ := ty_int hk
    cases h <;> simp_all
    exact .int
  · rename_i hk
    obtain ⟨_, hu⟩ := ty_bool hk
    cases h <;> simp_all
    exact .bool
  · rename_i hk
    obtain ⟨_, hu⟩ := ty_str hk
    cases h <;> simp_all
    exact .str rfl
  · rename_i e hk
    obtain ⟨_, hu⟩ := ty_slice hk
    cases h with
    | nil ht hn he => rw [hn, he]; exact .snapNil rfl rfl
    | slE ht hn he => rw [hn, he]; exact .snapE rfl rfl
    | sl ht hn hf hl hc css hcell h => rw [hu] at ht; cases ht; rw [hn]; exact .snap rfl hf hl hc (by simp) css hcell h
    | int h => rw [hu] at h; cases h
    | bool h => rw [hu] at h; cases h
    | str h => rw [hu] at h; cases h
    | st h => rw [hu] at h; cases h
  · rename_i fs hk
    obtain ⟨_, fa, hu, _⟩ := ty_struct hk
    exact .dat hu h
  · exact .junk h.oneC
theorem mk_fit {t : TypeId} {d : D} : Fit P Γ t (mk P t d) := by
  unfold mk
  split <;> rename_i hk
  · exact (ty_int hk).2
  · exact (ty_bool hk).2
  · exact (ty_str hk).2
  · exact (ty_slice hk).2
  · rfl
  · trivial
theorem Fit.type {t : TypeId} {a : A} (h : Fit P Γ t a) (hs : a.isS = true) : a.type = t := by
  cases a <;> first | (simp [A.isS] at hs; done) | exact h
theorem mk_tup {t : TypeId} {d : D} : ∀ vs, mk P t d ≠ .tup vs := by
  intro vs; unfold mk; split <;> simp
theorem mkL_get {fs : List (TypeId × Nat)} {d : D} : ∀ {k i : Nat} {x : A}, (mkL P fs d k)[i]? = some x → ∃ f, fs[i]? = some f ∧ x = mk P f.1 (d.f (k + i)) := by
  induction fs with
  | nil => intro k i x h; simp [mkL] at h
  | cons f r ih =>
    intro k i x h
    cases i with
    | zero => simp [mkL] at h; exact ⟨f, by simp, by simp [h]⟩
    | succ i =>
      simp [mkL] at h
      obtain ⟨g, h1, h2⟩ := ih h
      exact ⟨g, by simpa using h1, by rw [h2, Nat.add_assoc, Nat.add_comm 1 i]⟩
theorem mkL_length {fs : List (TypeId × Nat)} {d : D} : ∀ {k : Nat}, (mkL P fs d k).length = fs.length := by
  induction fs with
  | nil => intro k; rfl
  | cons f r ih => intro k; simp [mkL, ih]

/-- A struct's parts. -/
theorem fields_rel {a : A} {cs : List Value} (h : CRel P w Γ a cs) (hs : a.isS = true) {i : Nat} {x : A} (hx : (fieldsOf P a)[i]? = some x) :
    ∃ fs f, P.underlying a.type = some (.struct fs) ∧ fs[i]? = some f ∧ CRel P w Γ x ((cs.drop f.offset).take (P.cellsOf f.type)) ∧ Fit P Γ f.type x := by
  cases h with
  | dat ht h =>
    rename_i t fs d
    simp only [fieldsOf] at hx
    split at hx
    · rename_i fl hk
      obtain ⟨_, fa, hu, rfl⟩ := ty_struct hk
      rw [hu] at ht; cases ht
      obtain ⟨f, h1, rfl⟩ := mkL_get hx
      simp at h1
      obtain ⟨g, h2, rfl⟩ := h1
      cases h with
      | st ht' _ _ _ hh =>
        rw [hu] at ht'; cases ht'
        refine ⟨_, g, hu, h2, ?_, mk_fit⟩
        rw [Nat.zero_add]
        exact mk_rel (hh i g h2)
      | int h => rw [hu] at h; cases h
      | bool h => rw [hu] at h; cases h
      | str h => rw [hu] at h; cases h
      | nil h => rw [hu] at h; cases h
      | slE h => rw [hu] at h; cases h
      | sl h => rw [hu] at h; cases h
    · simp at hx
  | st ht hl hn ho hy hx' hh =>
    rename_i t fs as
    simp only [fieldsOf] at hx
    have hi : i < fs.size := by rw [← hn]; exact (List.getElem?_eq_some_iff.1 hx).1
    exact ⟨fs, fs[i], ht, by simp [hi], hh i _ x (by simp [hi]) hx, hy i _ x (by simp [hi]) hx⟩
  | _ => simp [A.isS] at hs

theorem cut_cut (cs : List Value) (a n b m : Nat) (h : b + m ≤ n) : (((cs.drop a).take n).drop b).take m = (cs.drop (a + b)).take m := by
  apply List.ext_getElem?
  intro i
  simp only [List.getElem?_take, List.getElem?_drop]
  split
  · rw [if_pos (by omega)]; congr 1; omega
  · rfl
theorem offAt_le (T : TabOk P) : ∀ {p : List Nat} {t u : TypeId} {o : Nat}, offAt P t p = some (u, o) → o + P.cellsOf u ≤ P.cellsOf t
  | [], t, u, o, h => by simp [offAt] at h; obtain ⟨rfl, rfl⟩ := h; omega
  | i :: p, t, u, o, h => by
    simp only [offAt] at h
    split at h
    · rename_i fs hk
      obtain ⟨hl, fa, hu, rfl⟩ := ty_struct hk
      split at h
      · rename_i ft off hf
        split at h
        · rename_i u' k hp
          cases h
          have h1 := offAt_le T hp
          have h2 := T.lay hl hu
          simp at hf
          obtain ⟨f, hf, rfl, rfl⟩ := hf
          have := (layout_get h2 (by simpa using hf)).2
          omega
        · cases h
      · cases h
    · cases h
theorem getA_isS : ∀ {p : List Nat} {i : Nat} {a x : A}, getA P a (i :: p) = some x → a.isS = true := by
  intro p i a x h
  simp only [getA] at h
  cases a <;> simp_all [fieldsOf, A.isS]
/-- A part of a value, by a path. -/
theorem getA_rel (T : TabOk P) : ∀ {p : List Nat} {a x : A} {cs : List Value} {t u : TypeId} {o : Nat}, CRel P w Γ a cs → Fit P Γ t a → cs.length = P.cellsOf t → getA P a p = some x → offAt P t p = some (u, o) →
    CRel P w Γ x ((cs.drop o).take (P.cellsOf u)) ∧ Fit P Γ u x
  | [], a, x, cs, t, u, o, h, hy, hl, hg, ho => by
    simp [getA] at hg; simp [offAt] at ho
    obtain ⟨rfl, rfl⟩ := ho
    subst hg
    refine ⟨?_, hy⟩
    rw [← hl]; simpa using h
  | i :: p, a, x, cs, t, u, o, h, hy, hl, hg, ho => by
    have hs := getA_isS hg
    simp only [getA] at hg
    split at hg
    · rename_i y hy'
      obtain ⟨fs, f, h1, h2, h3, h4⟩ := fields_rel h hs hy'
      rw [hy.type hs] at h1
      simp only [offAt] at ho
      split at ho
      · rename_i fl hk
        obtain ⟨hlt, fa, hu, rfl⟩ := ty_struct hk
        rw [hu] at h1; cases h1
        simp [h2] at ho
        split at ho
        · rename_i u' k hp
          simp at ho
          obtain ⟨rfl, rfl⟩ := ho
          have hb := (layout_get (T.lay hlt hu) (i := i) (by simpa using h2)).2
          have := getA_rel T h3 h4 (by simp; omega) hg hp
          rw [cut_cut _ _ _ _ _ (offAt_le T hp)] at this
          exact this
        · cases ho
      · cases ho
    · cases hg


/-! ### Cells written over -/
def ow (cs : List Value) (o : Nat) (xs : List Value) : List Value := cs.take o ++ xs ++ cs.drop (o + xs.length)
theorem ow_get {cs xs : List Value} {o : Nat} (h : o + xs.length ≤ cs.length) (i : Nat) : (ow cs o xs)[i]? = if i < o then cs[i]? else if i < o + xs.length then xs[i - o]? else cs[i]? := by
  unfold ow
  rw [List.append_assoc]
  by_cases h1 : i < o
  · rw [List.getElem?_append_left (by simp; omega), if_pos h1, List.getElem?_take, if_pos h1]
  · rw [List.getElem?_append_right (by simp; omega), if_neg h1]
    have e : (cs.take o).length = o := by simp; omega
    rw [e]
    by_cases h2 : i < o + xs.length
    · rw [if_pos h2, List.getElem?_append_left (by omega)]
    · rw [if_neg h2, List.getElem?_append_right (by omega), List.getElem?_drop]
      congr 1; omega
theorem ow_length {cs xs : List Value} {o : Nat} (h : o + xs.length ≤ cs.length) : (ow cs o xs).length = cs.length := by
  unfold ow; simp; omega
theorem ow_oneC {cs xs : List Value} {o : Nat} (h1 : ∀ v ∈ cs, v.oneCell' = true) (h2 : ∀ v ∈ xs, v.oneCell' = true) : ∀ v ∈ ow cs o xs, v.oneCell' = true := by
  intro v hv
  unfold ow at hv
  simp only [List.mem_append] at hv
  rcases hv with (hv | hv) | hv
  · exact h1 v (List.mem_of_mem_take hv)
  · exact h2 v hv
  · exact h1 v (List.mem_of_mem_drop hv)
theorem ow_apart {cs xs : List Value} {o g m : Nat} (h : o + xs.length ≤ cs.length) (ha : g + m ≤ o ∨ o + xs.length ≤ g) : ((ow cs o xs).drop g).take m = (cs.drop g).take m := by
  apply List.ext_getElem?
  intro i
  simp only [List.getElem?_take, List.getElem?_drop]
  split
  · rw [ow_get h]
    split
    · rfl
    · rw [if_neg (by omega)]
  · rfl
theorem ow_in {cs xs : List Value} {f k m : Nat} (h : f + m ≤ cs.length) (hk : k + xs.length ≤ m) : ((ow cs (f + k) xs).drop f).take m = ow ((cs.drop f).take m) k xs := by
  apply List.ext_getElem?
  intro i
  rw [ow_get (by simp; omega)]
  simp only [List.getElem?_take, List.getElem?_drop]
  by_cases hi : i < m
  · rw [if_pos hi, ow_get (by omega), if_pos hi]
    by_cases h1 : i < k
    · rw [if_pos h1, if_pos (by omega)]
    · rw [if_neg h1, if_neg (by omega)]
      by_cases h2 : i < k + xs.length
      · rw [if_pos h2, if_pos (by omega)]; congr 1; omega
      · rw [if_neg h2, if_neg (by omega)]
  · rw [if_neg hi, if_neg (by omega), if_neg (by omega), if_neg hi]
theorem ow_zero {cs xs : List Value} (h : xs.length = cs.length) : ow cs 0 xs = xs := by
  unfold ow; simp [h]

theorem fields_length {a : A} {t : TypeId} {fs : Array Field} {cs : List Value} (h : CRel P w Γ a cs) (hs : a.isS = true) (ha : a.type = t) (hu : P.underlying t = some (.struct fs)) (hl : ∃ fl, ty P t = .struct fl) : (fieldsOf P a).length = fs.size := by
  obtain ⟨fl, hl⟩ := hl
  obtain ⟨_, fa, hu', rfl⟩ := ty_struct hl
  rw [hu] at hu'; cases hu'
  cases h with
  | dat ht h =>
    simp only [A.type] at ha; subst ha
    simp [fieldsOf, hl, mkL_length]
  | st ht hl' hn =>
    simp only [A.type] at ha; subst ha
    rw [hu] at ht; cases ht
    simpa [fieldsOf] using hn
  | _ => simp [A.isS] at hs
theorem fields_len {a : A} {t : TypeId} {cs : List Value} (h : CRel P w Γ a cs) (hs : a.isS = true) (ha : a.type = t) : cs.length = P.cellsOf t := by
  cases h with
  | dat ht h =>
    simp only [A.type] at ha; subst ha
    cases h with
    | st _ hl => exact hl
    | int h => rw [ht] at h; cases h
    | bool h => rw [ht] at h; cases h
    | str h => rw [ht] at h; cases h
    | nil h => rw [ht] at h; cases h
    | slE h => rw [ht] at h; cases h
    | sl h => rw [ht] at h; cases h
  | st ht hl' hn =>
    simp only [A.type] at ha; subst ha; exact hl'
  | _ => simp [A.isS] at hs

theorem setA_rel (T : TabOk P) : ∀ {p : List Nat} {a a' x : A} {cs xs : List Value} {t u : TypeId} {o : Nat}, CRel P w Γ a cs → Fit P Γ t a → cs.length = P.cellsOf t → setA P a p x = some a' → offAt P t p = some (u, o) →
    CRel P w Γ x xs → xs.length = P.cellsOf u → Fit P Γ u x → CRel P w Γ a' (ow cs o xs) ∧ Fit P Γ t a'
  | [], a, a', x, cs, xs, t, u, o, h, hy, hl, hg, ho, hx, hxl, hxy => by
    simp [setA] at hg; simp [offAt] at ho
    obtain ⟨rfl, rfl⟩ := ho
    subst hg
    exact ⟨by rw [ow_zero (by omega)]; exact hx, hxy⟩
  | i :: p, a, a', x, cs, xs, t, u, o, h, hy, hl, hg, ho, hx, hxl, hxy => by
    simp only [setA] at hg
    split at hg
    · rename_i y hs hy'
      split at hg
      · rename_i y2 hy2
        cases hg
        have hat := hy.type hs
        obtain ⟨fs, f, h1, h2, h3, h4⟩ := fields_rel h hs hy'
        rw [hat] at h1
        simp only [offAt] at ho
        split at ho
        · rename_i fl hk
          obtain ⟨hlt, fa, hu, rfl⟩ := ty_struct hk
          rw [hu] at h1; cases h1
          simp [h2] at ho
          split at ho
          · rename_i u' k hp
            simp at ho
            obtain ⟨rfl, rfl⟩ := ho
            have hlay := T.lay hlt hu
            have hb := (layout_get hlay (i := i) (by simpa using h2)).2
            have hk' := offAt_le T hp
            have hsub := setA_rel T h3 h4 (by simp; omega) hy2 hp hx hxl hxy
            refine ⟨?_, hat⟩
            rw [hat]
            have hfit : f.offset + k + xs.length ≤ cs.length := by omega
            refine .st hu (by rw [ow_length hfit]; exact hl) (by rw [List.length_set]; exact fields_length h hs hat hu ⟨_, hk⟩) (ow_oneC h.oneC hx.oneC) ?_ ?_ ?_
            · intro j g b hj hb'
              rw [List.getElem?_set] at hb'
              split at hb'
              · rename_i hij
                subst hij
                rw [h2] at hj; cases hj
                split at hb'
                · cases hb'; exact hsub.2
                · cases hb'
              · obtain ⟨fs', f', e1, e2, e3, e4⟩ := fields_rel h hs hb'
                rw [hat, hu] at e1; cases e1
                rw [hj] at e2; cases e2
                exact e4
            · intro j g hj
              have := (layout_get hlay (i := j) (by simpa using hj)).2
              simp [ow_length hfit]; omega
            · intro j g b hj hb'
              rw [List.getElem?_set] at hb'
              split at hb'
              · rename_i hij
                subst hij
                rw [h2] at hj; cases hj
                split at hb'
                · cases hb'
                  rw [ow_in (by omega) (by omega)]
                  exact hsub.1
                · cases hb'
              · rename_i hij
                obtain ⟨fs', f', e1, e2, e3, e4⟩ := fields_rel h hs hb'
                rw [hat, hu] at e1; cases e1
                rw [hj] at e2; cases e2
                rw [ow_apart hfit ?_]
                · exact e3
                · rcases Nat.lt_or_gt_of_ne hij with hlt' | hlt'
                  · have := layout_apart hlay (i := i) (j := j) (by simpa using h2) (by simpa using hj) hlt'
                    omega
                  · have := layout_apart hlay (i := j) (j := i) (by simpa using hj) (by simpa using h2) hlt'
                    omega
          · cases ho
        · cases ho
      · cases hg
    · cases hg

/-! ### Paths in data -/
theorem pathD_rel (T : TabOk P) {Fz : Nat → Prop} : ∀ {p : List Nat} {t u : TypeId} {d d' : D} {cs : List Value}, DRel P w Fz t d cs → cs.length = P.cellsOf t → pathD P t d p = some (u, d') → ∃ o, offAt P t p = some (u, o) ∧ DRel P w Fz u d' ((cs.drop o).take (P.cellsOf u))
  | [], t, u, d, d', cs, h, hl, hp => by
    simp [pathD] at hp
    obtain ⟨rfl, rfl⟩ := hp
    exact ⟨0, by simp [offAt], by rw [← hl]; simpa using h⟩
  | i :: p, t, u, d, d', cs, h, hl, hp => by
    simp only [pathD] at hp
    split at hp
    · rename_i fl hk
      obtain ⟨hlt, fa, hu, rfl⟩ := ty_struct hk
      split at hp
      · rename_i ft off hf
        simp at hf
        obtain ⟨f, hf, rfl, rfl⟩ := hf
        have hb := (layout_get (T.lay hlt hu) (i := i) (by simpa using hf)).2
        cases h with
        | st ht _ _ _ hh =>
          rw [hu] at ht; cases ht
          obtain ⟨k, h1, h2⟩ := pathD_rel T (hh i f (by simpa using hf)) (by simp; omega) hp
          refine ⟨f.offset + k, ?_, ?_⟩
          · simp only [offAt, hk]; simp [hf, h1]
          · rw [cut_cut _ _ _ _ _ (offAt_le T h1)] at h2; exact h2
        | int h => rw [hu] at h; cases h
        | bool h => rw [hu] at h; cases h
        | str h => rw [hu] at h; cases h
        | nil h => rw [hu] at h; cases h
        | slE h => rw [hu] at h; cases h
        | sl h => rw [hu] at h; cases h
      · cases hp
    · cases hp
theorem typeAt_off : ∀ {p : List Nat} {t u : TypeId}, typeAt P t p = some u → ∃ o, offAt P t p = some (u, o)
  | [], t, u, h => by simp [typeAt] at h; exact ⟨0, by simp [offAt, h]⟩
  | i :: p, t, u, h => by
    simp only [typeAt] at h
    split at h
    · rename_i fl hk
      split at h
      · rename_i ft off hf
        obtain ⟨o, ho⟩ := typeAt_off h
        exact ⟨off + o, by simp [offAt, hk, hf, ho]⟩
      · cases h
    · cases h
theorem fsD_get {d : D} : ∀ {n k i : Nat}, i < n → (fsD d k n)[i]? = some (d.f (k + i))
  | 0, _, _, h => by omega
  | n + 1, k, 0, _ => by simp [fsD]
  | n + 1, k, i + 1, h => by simp only [fsD, List.getElem?_cons_succ]; rw [fsD_get (by omega)]; congr 2; omega
theorem fsD_length {d : D} : ∀ {n k : Nat}, (fsD d k n).length = n
  | 0, _ => rfl
  | n + 1, k => by simp [fsD, fsD_length]
theorem setD_rel (T : TabOk P) {Fz : Nat → Prop} : ∀ {p : List Nat} {t u : TypeId} {d d' x : D} {cs xs : List Value} {o : Nat}, DRel P w Fz t d cs → cs.length = P.cellsOf t → setD P t d p x = some d' → offAt P t p = some (u, o) →
    DRel P w Fz u x xs → xs.length = P.cellsOf u → DRel P w Fz t d' (ow cs o xs)
  | [], t, u, d, d', x, cs, xs, o, h, hl, hg, ho, hx, hxl => by
    simp [setD] at hg; simp [offAt] at ho
    obtain ⟨rfl, rfl⟩ := ho
    subst hg
    rw [ow_zero (by omega)]; exact hx
  | i :: p, t, u, d, d', x, cs, xs, o, h, hl, hg, ho, hx, hxl => by
    simp only [setD] at hg
    simp only [offAt] at ho
    split at hg
    · rename_i fl hk
      rw [hk] at ho
      obtain ⟨hlt, fa, hu, rfl⟩ := ty_struct hk
      split at hg
      · rename_i ft off hf
        have hf0 := hf
        simp at hf
        obtain ⟨f, hf, rfl, rfl⟩ := hf
        split at hg
        · rename_i y hy
          cases hg
          simp [hf] at ho
          split at ho
          · rename_i u' k hp
            simp at ho
            obtain ⟨rfl, rfl⟩ := ho
            have hlay := T.lay hlt hu
            have hb := (layout_get hlay (i := i) (by simpa using hf)).2
            have hk' := offAt_le T hp
            cases h with
            | st ht _ hone _ hh =>
              rw [hu] at ht; cases ht
              have hsub := setD_rel T (hh i f (by simpa using hf)) (by simp; omega) hy hp hx hxl
              have hfit : f.offset + k + xs.length ≤ cs.length := by omega
              refine .st hu (by rw [ow_length hfit]; exact hl) (ow_oneC hone hx.oneC) ?_ ?_
              · intro j g hj
                have := (layout_get hlay (i := j) (by simpa using hj)).2
                simp [ow_length hfit]; omega
              · intro j g hj
                have hjlt : j < fa.size := (Array.getElem?_eq_some_iff.1 hj).1
                have hg' := (layout_get hlay (i := j) (by simpa using hj)).2
                by_cases hij : i = j
                · subst hij
                  have : f = g := by rw [hf] at hj; exact (Option.some.inj hj)
                  subst this
                  rw [ow_in (by omega) (by omega)]
                  have e : (D.st ((fsD d 0 (List.map (fun f => (f.type, f.offset)) fa.toList).length).set i y)).f i = y := by
                    simp [D.f, List.getD, List.getElem?_set, fsD_length, hjlt]
                  rw [e]; exact hsub
                · have e : (D.st ((fsD d 0 (List.map (fun f => (f.type, f.offset)) fa.toList).length).set i y)).f j = d.f j := by
                    show ((fsD d 0 (List.map (fun f => (f.type, f.offset)) fa.toList).length).set i y).getD j .bad = d.f j
                    rw [List.getD_eq_getElem?_getD, List.getElem?_set, if_neg hij, fsD_get (by simpa using hjlt)]; simp
                  rw [e, ow_apart hfit ?_]
                  · exact hh j g hj
                  · rcases Nat.lt_or_gt_of_ne hij with hlt' | hlt'
                    · have := layout_apart hlay (i := i) (j := j) (by simpa using hf) (by simpa using hj) hlt'
                      omega
                    · have := layout_apart hlay (i := j) (j := i) (by simpa using hj) (by simpa using hf) hlt'
                      omega
            | int h => rw [hu] at h; cases h
            | bool h => rw [hu] at h; cases h
            | str h => rw [hu] at h; cases h
            | nil h => rw [hu] at h; cases h
            | slE h => rw [hu] at h; cases h
            | sl h => rw [hu] at h; cases h
          · cases ho
        · cases hg
      · cases hg
    · cases hg

end
end Go.Ev

namespace Go.Ev
open Go

section
variable {P : Program} {w : World} {Γ : Env}

/-! ### Zero values -/
theorem zero_one : ∀ n, (∀ t cs, zeroC P n t cs = true → ∀ v ∈ cs, v.oneCell' = true) ∧ (∀ fs cs, zeroF P n fs cs = true → ∀ v ∈ cs, v.oneCell' = true)
  | 0 => ⟨fun t cs h => by simp [zeroC] at h, fun fs cs h => by
      cases fs with
      | nil => simp [zeroF] at h; subst h; simp
      | cons f r => simp [zeroF] at h⟩
  | n + 1 => by
    obtain ⟨h1, h2⟩ := zero_one n
    refine ⟨fun t cs h => ?_, fun fs cs h => ?_⟩
    · simp only [zeroC] at h
      split at h
      · intro v hv; simp at hv; subst hv; rfl
      · intro v hv; simp at hv; subst hv; rfl
      · intro v hv; simp at hv; subst hv; rfl
      · intro v hv; simp at hv; subst hv; rfl
      · exact h2 _ _ h
      · cases h
    · cases fs with
      | nil => simp [zeroF] at h; subst h; simp
      | cons f r =>
        simp only [zeroF, Bool.and_eq_true] at h
        obtain ⟨⟨_, ha⟩, hb⟩ := h
        intro v hv
        rw [← List.take_append_drop (P.cellsOf f.type) cs, List.mem_append] at hv
        rcases hv with hv | hv
        · exact h1 _ _ ha v hv
        · exact h2 _ _ hb v hv
theorem zeroF_get : ∀ {fs : List Field} {n o N : Nat} {cs : List Value}, zeroF P n fs cs = true → layout P o fs = some N →
    o + cs.length = N ∧ ∀ (i : Nat) f, fs[i]? = some f → (∃ m, zeroC P m f.type ((cs.drop (f.offset - o)).take (P.cellsOf f.type)) = true) ∧ ((cs.drop (f.offset - o)).take (P.cellsOf f.type)).length = P.cellsOf f.type
  | [], n, o, N, cs, h, hl => by
    have : cs = [] := by cases n <;> simp_all [zeroF]
    subst this
    simp [layout] at hl
    exact ⟨by simpa using hl, fun i f hf => by simp at hf⟩
  | f :: r, 0, o, N, cs, h, hl => by simp [zeroF] at h
  | f :: r, n + 1, o, N, cs, h, hl => by
    simp only [zeroF, Bool.and_eq_true, beq_iff_eq] at h
    obtain ⟨⟨h0, ha⟩, hb⟩ := h
    simp only [layout] at hl
    split at hl
    · rename_i ho
      have ho : f.offset = o := by simpa using ho
      obtain ⟨h1, h2⟩ := zeroF_get hb hl
      have hlen : P.cellsOf f.type ≤ cs.length := by simp at h0; omega
      simp at h1
      refine ⟨by omega, fun i g hg => ?_⟩
      cases i with
      | zero =>
        simp at hg; subst hg
        rw [ho, Nat.sub_self]
        exact ⟨⟨n, by simpa using ha⟩, by simp; omega⟩
      | succ i =>
        have hg' : r[i]? = some g := by simpa using hg
        obtain ⟨⟨m, h3⟩, h4⟩ := h2 i g hg'
        have hge := (layout_get hl hg').1
        rw [List.drop_drop] at h3 h4
        have e : P.cellsOf f.type + (g.offset - (o + P.cellsOf f.type)) = g.offset - o := by omega
        rw [e] at h3 h4
        exact ⟨⟨m, h3⟩, h4⟩
    · cases hl
theorem zeroC_rel (T : TabOk P) {Fz : Nat → Prop} : ∀ {m n : Nat} {t : TypeId} {cs : List Value}, plainT P m t = true → zeroC P n t cs = true → DRel P w Fz t (zeroD P m t) cs
  | 0, n, t, cs, hp, _ => by simp [plainT] at hp
  | m + 1, 0, t, cs, hp, h => by simp [zeroC] at h
  | m + 1, n + 1, t, cs, hp, h => by
    have hone := (zero_one (n + 1)).1 t cs h
    simp only [zeroC] at h
    simp only [plainT] at hp
    simp only [zeroD]
    split at hp
    · rename_i k hk
      obtain ⟨_, hu⟩ := ty_int hk
      have : cs = [.int k 0] := by rw [hu] at h; split at h <;> simp_all
      subst this
      exact .int hu rfl
    · rename_i hk
      obtain ⟨_, hu⟩ := ty_bool hk
      have : cs = [.bool false] := by rw [hu] at h; split at h <;> simp_all
      subst this
      exact .bool hu rfl
    · rename_i hk
      obtain ⟨_, hu⟩ := ty_str hk
      have : ∃ s : ByteArray, cs = [.string s] ∧ s.data.size = 0 := by
        rw [hu] at h; split at h <;> simp_all
      obtain ⟨s, rfl, this⟩ := this
      refine .str hu ?_
      show [] = _
      rw [Array.eq_empty_of_size_eq_zero this]
    · rename_i e hk
      obtain ⟨_, hu⟩ := ty_slice hk
      have : cs = [.slice none 0 0] := by rw [hu] at h; split at h <;> simp_all
      subst this
      exact .nil hu rfl rfl
    · rename_i fl hk
      obtain ⟨hlt, fa, hu, rfl⟩ := ty_struct hk
      rw [hu] at h
      have hlay := T.lay hlt hu
      have h : zeroF P n fa.toList cs = true := by split at h <;> simp_all
      obtain ⟨h1, h2⟩ := zeroF_get h hlay
      refine .st hu (by omega) hone (fun i f hf => (h2 i f (by simpa using hf)).2) (fun i f hf => ?_)
      obtain ⟨⟨k, h3⟩, _⟩ := h2 i f (by simpa using hf)
      have e : (D.st (List.map (fun x => zeroD P m x.1) (List.map (fun f => (f.type, f.offset)) fa.toList))).f i = zeroD P m f.type := by
        show (List.map (fun x => zeroD P m x.1) (List.map (fun f => (f.type, f.offset)) fa.toList)).getD i .bad = _
        rw [List.getD_eq_getElem?_getD]; simp [hf]
      rw [e]
      refine zeroC_rel T (n := k) ?_ h3
      have := List.all_eq_true.1 hp (f.type, f.offset) (List.mem_map.2 ⟨f, Array.mem_toList_iff.2 (Array.mem_of_getElem? hf), rfl⟩)
      simp at this
      exact this.1
    · cases hp
/-- The zero value of a plain type. -/
theorem zero_ok (T : TabOk P) {t : TypeId} (hp : plainT P 20 t = true) : ∃ i z, P.info? t = some i ∧ i.zero = some z ∧ (∀ (w : World) Fz, DRel P w Fz t (zeroD P 20 t) z.cells.toList) ∧
    VShape (mk P t (zeroD P 20 t)) z := by
  have h := T.ok t (plain_lt hp)
  unfold okType at h
  rw [hp] at h
  simp only [Bool.and_eq_true, Bool.not_true, Bool.false_or] at h
  obtain ⟨_, h⟩ := h
  split at h
  · rename_i i hi
    split at h
    · rename_i z hz
      simp only [Bool.and_eq_true] at h
      obtain ⟨h1, h2⟩ := h
      refine ⟨i, z, hi, hz, fun w Fz => zeroC_rel T hp h1, ?_⟩
      unfold mk
      split <;> rename_i hk
      · obtain ⟨_, hu⟩ := ty_int hk; rw [hu] at h2; cases z <;> simp_all [VShape, A.isS]
      · obtain ⟨_, hu⟩ := ty_bool hk; rw [hu] at h2; cases z <;> simp_all [VShape, A.isS]
      · obtain ⟨_, hu⟩ := ty_str hk; rw [hu] at h2; cases z <;> simp_all [VShape, A.isS]
      · obtain ⟨_, hu⟩ := ty_slice hk; rw [hu] at h2; cases z <;> simp_all [VShape, A.isS]
      · obtain ⟨_, fa, hu, _⟩ := ty_struct hk; rw [hu] at h2; cases z <;> simp_all [VShape, A.isS]
      · exfalso
        simp_all [plainT]
    · cases h
  · cases h

end
end Go.Ev

namespace Go.Ev
open Go

/-! ### What data are made of -/
mutual
def reach (obs : List Ob) : Nat → A → Nat → Prop
  | _, .sub q _ _ _, o => o = q
  | 0, .own q, o => o = q
  | n + 1, .own q, o => o = q ∨ (match obs[q]? with | some (.arrA _ as _ _) => reachL obs n as o | _ => False)
  | n + 1, .st _ fs, o => reachL obs n fs o
  | _, _, _ => False
def reachL (obs : List Ob) : Nat → List A → Nat → Prop
  | n + 1, a :: l, o => reach obs n a o ∨ reachL obs n l o
  | _, _, _ => False
end

theorem dataL_get {obs : List Ob} : ∀ {n : Nat} {as : List A} {l : List D}, dataL obs n as = some l → l.length = as.length ∧
    ∀ (i : Nat) a, as[i]? = some a → ∃ m d, m < n ∧ l[i]? = some d ∧ dataOf obs m a = some d ∧ ∀ o, reach obs m a o → reachL obs n as o
  | n, [], l, h => by
    have : l = [] := by cases n <;> simp_all [dataL]
    subst this
    exact ⟨rfl, fun i a ha => by simp at ha⟩
  | 0, a :: as, l, h => by simp [dataL] at h
  | n + 1, a :: as, l, h => by
    simp only [dataL] at h
    split at h
    · rename_i d r h1 h2
      cases h
      obtain ⟨h3, h4⟩ := dataL_get h2
      refine ⟨by simp [h3], fun i b hb => ?_⟩
      cases i with
      | zero =>
        simp at hb; subst hb
        exact ⟨n, d, by omega, by simp, h1, fun o ho => by simp only [reachL]; exact .inl ho⟩
      | succ i =>
        obtain ⟨m, d', h5, h6, h7, h8⟩ := h4 i b (by simpa using hb)
        exact ⟨m, d', by omega, by simpa using h6, h7, fun o ho => by simp only [reachL]; exact .inr (h8 o ho)⟩
    · cases h

theorem stillL_get : ∀ {l : List A} {i : Nat} {a : A}, A.stillL l = true → l[i]? = some a → a.still = true
  | [], _, _, _, h => by simp at h
  | b :: l, 0, a, hl, h => by simp at h; subst h; simp [A.stillL] at hl; exact hl.1
  | b :: l, i + 1, a, hl, h => stillL_get (l := l) (i := i) (by simp [A.stillL] at hl; exact hl.2) (by simpa using h)

section
variable {P : Program} {w : World} {Γ : Env}

theorem dataOf_rel {cv : Nat → Prop} {obs obsS : List Ob} (hm : Mem P w Γ cv obsS) (wk : Wk obs obsS) {Fz' : Nat → Prop} (hF : ∀ b, Γ.Fz b → Fz' b)
    : ∀ {n : Nat} {a : A} {d : D} {cs : List Value} {t : TypeId}, CRel P w Γ a cs → Fit P Γ t a → dataOf obs n a = some d → (a.still = true ∨ ∀ o ob, obs[o]? = some ob → (∀ t a, ob ≠ .var t a) → cv o) →
      (∀ o p b, reach obs n a o → Γ.β o = some p → p.block = some b → Fz' b) → DRel P w Fz' t d cs := by
  intro n
  induction n using Nat.strongRecOn with
  | ind n ih =>
    intro a d cs t h hf hd hcv hr
    cases h with
    | junk => cases n <;> simp [dataOf] at hd
    | int =>
      rename_i k x
      have : d = .int x := by cases n <;> simp [dataOf] at hd <;> exact hd.symm
      subst this; exact .int hf rfl
    | bool =>
      rename_i b
      have : d = .bool b := by cases n <;> simp [dataOf] at hd <;> exact hd.symm
      subst this; exact .bool hf rfl
    | str h =>
      rename_i l s
      have : d = .str l := by cases n <;> simp [dataOf] at hd <;> exact hd.symm
      subst this; exact .str hf h
    | dat ht h =>
      rename_i t' fs d'
      have : d = d' := by cases n <;> simp [dataOf] at hd <;> exact hd.symm
      subst this
      have : t' = t := hf
      subst this
      exact h.mono hF (fun _ _ => rfl)
    | st ht hl hn ho hy hx hh =>
      rename_i t' fs as
      have : t' = t := hf
      subst this
      cases n with
      | zero => simp [dataOf] at hd
      | succ n =>
        simp only [dataOf] at hd
        split at hd
        · rename_i l hl'
          cases hd
          obtain ⟨h1, h2⟩ := dataL_get hl'
          refine .st ht hl ho hx (fun i f hfi => ?_)
          have hi : i < as.length := by rw [hn]; exact (Array.getElem?_eq_some_iff.1 hfi).1
          obtain ⟨m, d', h3, h4, h5, h6⟩ := h2 i as[i] (List.getElem?_eq_getElem hi)
          have e : (D.st l).f i = d' := by show l.getD i .bad = d'; rw [List.getD_eq_getElem?_getD, h4]; rfl
          rw [e]
          exact ih m (by omega) (hh i f _ hfi (List.getElem?_eq_getElem hi)) (hy i f _ hfi (List.getElem?_eq_getElem hi)) h5 (hcv.imp (fun h => stillL_get (by simpa [A.still] using h) (List.getElem?_eq_getElem hi)) id) (fun o p b ho => hr o p b (by simp only [reach]; exact h6 o ho))
        · cases hd
    | nsl =>
      have : d = .sl true [] := by cases n <;> simp [dataOf] at hd <;> exact hd.symm
      subst this
      obtain ⟨e, he⟩ := hf
      exact .nil he rfl rfl
    | snapNil hn he =>
      rename_i e nil es f
      have : d = .sl nil es := by cases n <;> simp [dataOf] at hd <;> exact hd.symm
      subst this
      exact .nil hf hn he
    | snapE hn he =>
      rename_i e nil es f a
      have : d = .sl nil es := by cases n <;> simp [dataOf] at hd <;> exact hd.symm
      subst this
      exact .slE hf hn he
    | snap hn hf' hl hc hfull css hcell h =>
      rename_i e nil es f b off k cap
      have : d = .sl nil es := by cases n <;> simp [dataOf] at hd <;> exact hd.symm
      subst this
      exact .sl hf hn (hF _ hf') hl hc css hcell (fun i x hx => (h i x hx).mono hF (fun _ _ => rfl))
    | ownNil hp =>
      rename_i o e
      obtain ⟨p, e', h1, h2, h3⟩ := hf
      rw [hp] at h1; cases h1
      simp only [Place.elem] at h2; cases h2
      have hob : ∃ ob, obs[o]? = some ob := by cases hq : obs[o]? with | some ob => exact ⟨ob, rfl⟩ | none => cases n <;> simp [dataOf, hq] at hd
      obtain ⟨ob, hob⟩ := hob
      have hs := (hm.at wk hp hob).1
      cases ob with
      | arr e'' es nilable f rw =>
        obtain ⟨_, h4, h5⟩ := hs
        have : d = .sl (band_ nilable (empty es)) es := by cases n <;> simp [dataOf, hob] at hd <;> exact hd.symm
        subst this; subst h4; subst h5
        exact .nil h3 rfl rfl
      | dead => cases n <;> simp [dataOf, hob] at hd
      | _ => simp [Shape] at hs
    | own hp hc hs hfull =>
      rename_i o b k size e full cap
      have hcv := hcv.resolve_left (by simp [A.still])
      obtain ⟨p, e', h1, h2, h3⟩ := hf
      rw [hp] at h1; cases h1
      simp only [Place.elem] at h2; cases h2
      have hob : ∃ ob, obs[o]? = some ob := by cases hq : obs[o]? with | some ob => exact ⟨ob, rfl⟩ | none => cases n <;> simp [dataOf, hq] at hd
      obtain ⟨ob, hob⟩ := hob
      obtain ⟨hsh, hbk, hct⟩ := hm.at wk hp hob
      obtain ⟨c, hcell, hcs, hcl⟩ := hbk
      have hfit : ∀ i, i < k → i * P.cellsOf e + P.cellsOf e ≤ c.size := fun i hi => by
        have : (i + 1) * P.cellsOf e ≤ k * P.cellsOf e := Nat.mul_le_mul_right _ hi
        rw [Nat.add_mul, Nat.one_mul] at this
        omega
      have hcells : ∀ i, i < k → (cellsIn c (i * P.cellsOf e) (P.cellsOf e)).length = P.cellsOf e ∧ CellsAt w b (0 + i * P.cellsOf e) (cellsIn c (i * P.cellsOf e) (P.cellsOf e)) := fun i hi =>
        ⟨cellsIn_length (hfit i hi), by rw [Nat.zero_add]; exact cellsIn_at hcell _ _⟩
      have hFb : Fz' b := hr o _ b (by cases n <;> simp [reach]) hp rfl
      cases ob with
      | arr e'' es nilable f rw =>
        obtain ⟨h4, h5, h6, _⟩ := hsh
        subst h4
        have : d = .sl (band_ nilable (empty es)) es := by cases n <;> simp [dataOf, hob] at hd <;> exact hd.symm
        subst this
        have hct := hct (hcv o _ hob (by simp))
        refine .sl h3 ?_ hFb h5 hc (fun i => cellsIn c (i * P.cellsOf e'') (P.cellsOf e'')) hcells (fun i x hx => (hct c _ _ hcell i x hx).mono hF (fun _ _ => rfl))
        show band_ nilable (empty es) = false
        cases nilable with
        | false => rfl
        | true =>
          have := h6 rfl
          show empty es = false
          unfold empty
          cases es with
          | nil => simp at h5; omega
          | cons x l => rfl
      | arrA e'' as f rw =>
        obtain ⟨h4, h5, _⟩ := hsh
        subst h4
        have hct := hct (hcv o _ hob (by simp))
        cases n with
        | zero => simp [dataOf, hob] at hd
        | succ n =>
          simp only [dataOf, hob] at hd
          split at hd
          · rename_i l hl'
            cases hd
            obtain ⟨h1, h2⟩ := dataL_get hl'
            refine .sl h3 rfl hFb (h1.trans h5) hc (fun i => cellsIn c (i * P.cellsOf e'') (P.cellsOf e'')) hcells (fun i x hx => ?_)
            have hi : i < as.length := by rw [← h1]; exact (List.getElem?_eq_some_iff.1 hx).1
            obtain ⟨m, d', h3, h4, h5, h6⟩ := h2 i as[i] (List.getElem?_eq_getElem hi)
            have hx : l[i]? = some x := hx
            rw [hx] at h4; cases h4
            obtain ⟨c1, c2⟩ := hct c _ _ hcell i _ (List.getElem?_eq_getElem hi)
            exact ih m (by omega) c2 c1 h5 (.inr hcv) (fun o p b ho => hr o p b (by simp only [reach, hob]; exact .inr (h6 o ho)))
          · cases hd
      | dead => cases n <;> simp [dataOf, hob] at hd
      | _ => simp [Shape] at hsh
    | subNil hp =>
      rename_i o e f
      obtain ⟨p, e', h1, h2, h3⟩ := hf
      rw [hp] at h1; cases h1
      simp only [Place.elem] at h2; cases h2
      have hob : ∃ ob, obs[o]? = some ob := by cases hq : obs[o]? with | some ob => exact ⟨ob, rfl⟩ | none => cases n <;> simp [dataOf, hq] at hd
      obtain ⟨ob, hob⟩ := hob
      have hs := (hm.at wk hp hob).1
      cases ob with
      | arr e'' es nilable f rw =>
        obtain ⟨_, h4, h5⟩ := hs
        have : d = .sl (band_ nilable (empty es)) (cut es 0 0) := by cases n <;> simp [dataOf, hob] at hd <;> exact hd.symm
        subst this; subst h4; subst h5
        exact .nil h3 rfl rfl
      | dead => cases n <;> simp [dataOf, hob] at hd
      | _ => simp [Shape] at hs
    | sub hp hl hc hs hfull hoff =>
      rename_i o b len size e full lo k cap off f
      have hcv := hcv.resolve_left (by simp [A.still])
      obtain ⟨p, e', h1, h2, h3⟩ := hf
      rw [hp] at h1; cases h1
      simp only [Place.elem] at h2; cases h2
      have hob : ∃ ob, obs[o]? = some ob := by cases hq : obs[o]? with | some ob => exact ⟨ob, rfl⟩ | none => cases n <;> simp [dataOf, hq] at hd
      obtain ⟨ob, hob⟩ := hob
      obtain ⟨hsh, hbk, hct⟩ := hm.at wk hp hob
      obtain ⟨c, hcell, hcs, hcl⟩ := hbk
      have hFb : Fz' b := hr o _ b (by cases n <;> simp [reach]) hp rfl
      cases ob with
      | arr e'' es nilable f rw =>
        obtain ⟨h4, h5, h6, _⟩ := hsh
        subst h4
        have : d = .sl (band_ nilable (empty es)) (cut es lo k) := by cases n <;> simp [dataOf, hob] at hd <;> exact hd.symm
        subst this
        have hct := hct (hcv o _ hob (by simp))
        refine .sl h3 ?_ hFb ?_ hc (fun i => cellsIn c ((lo + i) * P.cellsOf e'') (P.cellsOf e'')) (fun i hi => ?_) (fun i x hx => ?_)
        · show band_ nilable (empty es) = false
          cases nilable with
          | false => rfl
          | true =>
            have := h6 rfl
            show empty es = false
            unfold empty
            cases es with
            | nil => simp at h5; omega
            | cons x l => rfl
        · show (cut es lo k).length = k
          unfold cut; simp; omega
        · have h7 : (lo + i + 1) * P.cellsOf e'' ≤ len * P.cellsOf e'' := Nat.mul_le_mul_right _ (by omega)
          rw [Nat.add_mul, Nat.one_mul] at h7
          refine ⟨cellsIn_length (by omega), ?_⟩
          have : off + i * P.cellsOf e'' = (lo + i) * P.cellsOf e'' := by
            rcases hoff with h | h
            · rw [h, Nat.add_mul]
            · omega
          rw [this]
          exact cellsIn_at hcell _ _
        · have hx : (cut es lo k)[i]? = some x := hx
          unfold cut at hx
          rw [List.getElem?_take] at hx
          split at hx
          · rw [List.getElem?_drop] at hx
            exact (hct c _ _ hcell (lo + i) x hx).mono hF (fun _ _ => rfl)
          · cases hx
      | arrA e'' as f' rw => cases n <;> simp [dataOf, hob] at hd
      | dead => cases n <;> simp [dataOf, hob] at hd
      | _ => simp [Shape] at hsh
    | ref => cases n <;> simp [dataOf] at hd
    | eref => cases n <;> simp [dataOf] at hd
    | dref => cases n <;> simp [dataOf] at hd
    | nptr => cases n <;> simp [dataOf] at hd
    | fn => cases n <;> simp [dataOf] at hd
    | mapr => cases n <;> simp [dataOf] at hd

/-! ### What is frozen -/
def Fzn (obs : List Ob) (o : Nat) : Prop := ∃ ob, obs[o]? = some ob ∧ ob.rw = false
theorem Fzn.wk {a b : List Ob} {o : Nat} (h : Fzn a o) (k : Wk a b) : Fzn b o := by
  obtain ⟨ob, h1, h2⟩ := h
  obtain ⟨ob', h3, h4⟩ := k o ob h1
  refine ⟨ob', h3, ?_⟩
  cases hr : ob'.rw with
  | false => rfl
  | true => exact (h4.rw hr).symm.trans h2
theorem frzO_wk (obs : List Ob) (o : Nat) : Wk obs (frzO obs o) := by
  unfold frzO
  split
  · rename_i e es n f rw h
    intro q ob hq
    by_cases hqo : o = q
    · subst hqo
      rw [h] at hq; cases hq
      exact ⟨_, by rw [List.getElem?_set_self (List.getElem?_eq_some_iff.1 h).1], .inr (.inl ⟨_, _, _, _, _, rfl, rfl⟩)⟩
    · exact ⟨ob, by rw [List.getElem?_set_ne hqo]; exact hq, .refl _⟩
  · rename_i e as f rw h
    intro q ob hq
    by_cases hqo : o = q
    · subst hqo
      rw [h] at hq; cases hq
      exact ⟨_, by rw [List.getElem?_set_self (List.getElem?_eq_some_iff.1 h).1], .inr (.inr ⟨_, _, _, _, rfl, rfl⟩)⟩
    · exact ⟨ob, by rw [List.getElem?_set_ne hqo]; exact hq, .refl _⟩
  · exact Wk.refl _
theorem frz_wk : ∀ n, (∀ obs a, Wk obs (frz n obs a)) ∧ (∀ obs l, Wk obs (frzL n obs l))
  | 0 => by
    refine ⟨fun obs a => ?_, fun obs l => ?_⟩
    · cases a <;> simp only [frz] <;> first | exact Wk.refl _ | exact frzO_wk _ _
    · simp only [frzL]; exact Wk.refl _
  | n + 1 => by
    obtain ⟨h1, h2⟩ := frz_wk n
    refine ⟨fun obs a => ?_, fun obs l => ?_⟩
    · cases a <;> simp only [frz] <;> first | exact Wk.refl _ | exact frzO_wk _ _ | exact h2 _ _ | skip
      split
      · exact (frzO_wk _ _).trans (h2 _ _)
      · exact frzO_wk _ _
    · cases l with
      | nil => simp only [frzL]; exact Wk.refl _
      | cons a l => simp only [frzL]; exact (h1 _ _).trans (h2 _ _)
theorem frzO_fzn {obs : List Ob} {o : Nat} (h : (∃ e es n f rw, obs[o]? = some (.arr e es n f rw)) ∨ ∃ e as f rw, obs[o]? = some (.arrA e as f rw)) : Fzn (frzO obs o) o := by
  rcases h with ⟨e, es, n, f, rw, h⟩ | ⟨e, as, f, rw, h⟩
  · refine ⟨.arr e es n f false, ?_, rfl⟩
    unfold frzO
    rw [h]
    simp only
    rw [List.getElem?_set_self (List.getElem?_eq_some_iff.1 h).1]
  · refine ⟨.arrA e as f false, ?_, rfl⟩
    unfold frzO
    rw [h]
    simp only
    rw [List.getElem?_set_self (List.getElem?_eq_some_iff.1 h).1]
theorem Wk.arr {a b : List Ob} (k : Wk a b) {o : Nat} {e es n f rw} (h : a[o]? = some (.arr e es n f rw)) : ∃ rw', b[o]? = some (.arr e es n f rw') := by
  obtain ⟨ob', h1, h2⟩ := k o _ h
  rcases h2 with rfl | ⟨e', es', n', f', rw', h3, rfl⟩ | ⟨e', as', f', rw', h3, rfl⟩
  · exact ⟨_, h1⟩
  · cases h3; exact ⟨_, h1⟩
  · cases h3
theorem Wk.arrA {a b : List Ob} (k : Wk a b) {o : Nat} {e as f rw} (h : a[o]? = some (.arrA e as f rw)) : ∃ rw', b[o]? = some (.arrA e as f rw') := by
  obtain ⟨ob', h1, h2⟩ := k o _ h
  rcases h2 with rfl | ⟨e', es', n', f', rw', h3, rfl⟩ | ⟨e', as', f', rw', h3, rfl⟩
  · exact ⟨_, h1⟩
  · cases h3
  · cases h3; exact ⟨_, h1⟩
theorem frz_reach {obs : List Ob} : ∀ n, (∀ obs' a d, Wk obs obs' → dataOf obs n a = some d → ∀ o, reach obs n a o → Fzn (frz n obs' a) o) ∧
    (∀ obs' l ds, Wk obs obs' → dataL obs n l = some ds → ∀ o, reachL obs n l o → Fzn (frzL n obs' l) o)
  | 0 => by
    refine ⟨fun obs' a d wk hd o hr => ?_, fun obs' l ds wk hd o hr => by simp [reachL] at hr⟩
    cases a <;> simp only [reach] at hr
    · rename_i q
      subst hr
      simp only [dataOf] at hd
      simp only [frz]
      split at hd
      · rename_i h; obtain ⟨rw', h⟩ := wk.arr h; exact frzO_fzn (.inl ⟨_, _, _, _, _, h⟩)
      · cases hd
      · cases hd
    · rename_i q lo k f
      subst hr
      simp only [dataOf] at hd
      simp only [frz]
      split at hd
      · rename_i h; obtain ⟨rw', h⟩ := wk.arr h; exact frzO_fzn (.inl ⟨_, _, _, _, _, h⟩)
      · cases hd
  | n + 1 => by
    obtain ⟨h1, h2⟩ := frz_reach (obs := obs) n
    refine ⟨fun obs' a d wk hd o hr => ?_, fun obs' l ds wk hd o hr => ?_⟩
    · cases a <;> simp only [reach] at hr
      · simp only [dataOf] at hd
        simp only [frz]
        split at hd
        · rename_i hl; exact h2 _ _ _ wk hl o hr
        · cases hd
      · rename_i q
        simp only [dataOf] at hd
        simp only [frz]
        split at hd
        · rename_i h
          obtain ⟨rw', h'⟩ := wk.arr h
          rw [h]  at hr
          simp at hr
          subst hr
          rw [h']
          exact frzO_fzn (.inl ⟨_, _, _, _, _, h'⟩)
        · rename_i h
          obtain ⟨rw', h'⟩ := wk.arrA h
          simp only [h] at hr
          rw [h']
          simp only
          split at hd
          · rename_i hl
            have hw := wk.trans (frzO_wk obs' q)
            rcases hr with rfl | hr
            · exact (frzO_fzn (.inr ⟨_, _, _, _, h'⟩)).wk ((frz_wk n).2 _ _)
            · exact h2 _ _ _ hw hl o hr
          · cases hd
        · cases hd
      · rename_i q lo k f
        subst hr
        simp only [dataOf] at hd
        simp only [frz]
        split at hd
        · rename_i h; obtain ⟨rw', h⟩ := wk.arr h; exact frzO_fzn (.inl ⟨_, _, _, _, _, h⟩)
        · cases hd
    · cases l with
      | nil => simp [reachL] at hr
      | cons a l =>
        simp only [reachL] at hr
        simp only [dataL] at hd
        simp only [frzL]
        split at hd
        · rename_i d r hd1 hd2
          rcases hr with hr | hr
          · exact (h1 _ _ _ wk hd1 o hr).wk ((frz_wk n).2 _ _)
          · exact h2 _ _ _ (wk.trans ((frz_wk n).1 _ _)) hd2 o hr
        · cases hd
theorem still_reach {obs : List Ob} : ∀ n, (∀ a, a.still = true → ∀ o, ¬ reach obs n a o) ∧ (∀ l, A.stillL l = true → ∀ o, ¬ reachL obs n l o)
  | 0 => by
    refine ⟨fun a ha o h => ?_, fun l hl o h => by simp [reachL] at h⟩
    cases a <;> simp_all [A.still, reach]
  | n + 1 => by
    obtain ⟨h1, h2⟩ := still_reach (obs := obs) n
    refine ⟨fun a ha o h => ?_, fun l hl o h => ?_⟩
    · cases a <;> simp_all [A.still, reach]
    · cases l with
      | nil => simp [reachL] at h
      | cons a l =>
        simp only [A.stillL, Bool.and_eq_true] at hl
        simp only [reachL] at h
        rcases h with h | h
        · exact h1 a hl.1 o h
        · exact h2 l hl.2 o h

/-- What is written no more is frozen. -/
def Env.frozen (Γ : Env) (obs : List Ob) : Env := { Γ with Fz := fun b => Γ.Fz b ∨ ∃ o p, Γ.β o = some p ∧ p.block = some b ∧ Fzn obs o }
theorem Grow.frozen {cv : Nat → Prop} {obs : List Ob} {lo hi : Nat} (h : Mem P w Γ cv obs) : Grow P Γ (Γ.frozen obs) w w cv obs lo hi := by
  have hst : ∀ base, Step base Γ (Γ.frozen obs) w w := fun base => { Step.refl base Γ w with
    fz := fun b hb => .inl hb
    fznew := fun b hb => hb.elim .inl fun ⟨o, p, h1, h2, _⟩ => .inr (.inr ⟨o, p, h1, h2⟩)
    keep := fun o p _ hp => hp
    new := fun o p b hp hb => .inr ⟨o, p, hp, hb⟩ }
  refine ⟨hst, ⟨fun o p hp => ?_, h.inj, fun b hb => ?_⟩, fun fl hf o p b ob ho hp hb hob hrw hfz => ?_, fun o p hp => hp, fun o ho => .inl ho, fun _ _ => rfl⟩
  · obtain ⟨ob, h1, h2, h3, h4⟩ := h.ob o p hp
    exact ⟨ob, h1, h2, h3, fun hc => (h4 hc).same (fun _ _ => rfl) ⟨fun b hb => .inl hb, fun _ _ => rfl, fun _ _ _ hp => hp⟩⟩
  · rcases hb with hb | ⟨o, p, h1, h2, _⟩
    · exact h.fzlt b hb
    · obtain ⟨_, _, _, h3, _⟩ := h.ob o p h1
      exact h3.lt h2
  · rcases hfz with hfz | ⟨o', p', h1, h2, ob', h3, h4⟩
    · exact hf o p b ob ho hp hb hob hrw hfz
    · have := h.inj o o' p p' b hp h1 hb h2
      subst this
      rw [hob] at h3; cases h3
      rw [hrw] at h4; cases h4

end
end Go.Ev

namespace Go.Ev
open Go

section
variable {P : Program} {w : World} {Γ : Env}

theorem fits_fit {cv : Nat → Prop} {obs obsS : List Ob} (hm : Mem P w Γ cv obsS) (wk : Wk obs obsS) {t : TypeId} {a : A} {cs : List Value} (h : fits P obs t a = true) (hr : CRel P w Γ a cs) : Fit P Γ t a := by
  cases a with
  | int k n =>
    simp only [fits] at h
    split at h
    · rename_i k' hk; simp at h; subst h; exact (ty_int hk).2
    · cases h
  | bool b =>
    simp only [fits] at h
    split at h
    · rename_i hk; exact (ty_bool hk).2
    · cases h
  | str b =>
    simp only [fits] at h
    split at h
    · rename_i hk; exact (ty_str hk).2
    · cases h
  | dat t' d => simp [fits] at h; exact h.symm
  | st t' d => simp [fits] at h; exact h.symm
  | nsl =>
    simp only [fits] at h
    split at h
    · rename_i e hk; exact ⟨e, (ty_slice hk).2⟩
    · cases h
  | snap e nil es f =>
    simp only [fits] at h
    split at h
    · rename_i e' hk; simp at h; subst h; exact (ty_slice hk).2
    · cases h
  | own o =>
    simp only [fits] at h
    cases hr with
    | ownNil hp =>
      split at h
      · rename_i e' e _ _ _ _ hk hob
        simp at h; subst h
        have := (hm.at wk hp hob).1
        exact ⟨_, _, hp, by rw [← this.1]; rfl, (ty_slice hk).2⟩
      · rename_i hk hob
        have := (hm.at wk hp hob).1
        simp [Shape] at this
      · cases h
    | own hp =>
      split at h
      · rename_i e' e _ _ _ _ hk hob
        simp at h; subst h
        have := (hm.at wk hp hob).1
        exact ⟨_, _, hp, by rw [← this.1]; rfl, (ty_slice hk).2⟩
      · rename_i e' e _ _ _ hk hob
        simp at h; subst h
        have := (hm.at wk hp hob).1
        exact ⟨_, _, hp, by rw [← this.1]; rfl, (ty_slice hk).2⟩
      · cases h
  | sub o lo n f =>
    simp only [fits] at h
    cases hr with
    | subNil hp =>
      split at h
      · rename_i e' e _ _ _ _ hk hob
        simp at h; subst h
        have := (hm.at wk hp hob).1
        exact ⟨_, _, hp, by rw [← this.1]; rfl, (ty_slice hk).2⟩
      · cases h
    | sub hp =>
      split at h
      · rename_i e' e _ _ _ _ hk hob
        simp at h; subst h
        have := (hm.at wk hp hob).1
        exact ⟨_, _, hp, by rw [← this.1]; rfl, (ty_slice hk).2⟩
      · cases h
  | _ => trivial

/-- What a value that fits is: its type is known, and it has as many cells. -/
theorem CRel.single {a : A} {cs : List Value} (h : CRel P w Γ a cs) (hj : a ≠ .junk) (hs : a.isS = false) : ∃ v, cs = [v] := by
  cases h <;> first | exact ⟨_, rfl⟩ | (simp [A.isS] at hs; done) | exact absurd rfl hj
theorem fits_kind (T : TabOk P) {obs : List Ob} {t : TypeId} {a : A} {cs : List Value} (h : fits P obs t a = true) (hr : CRel P w Γ a cs) :
    ∃ d, P.underlying t = some d ∧ (d.isRow = true ↔ a.isS = true) ∧ cs.length = P.cellsOf t ∧ a ≠ .junk := by
  have key : ∀ d : TypeDesc, d.isRow = false → t < P.types.size → P.underlying t = some d → (match d with | .int _ | .bool | .string | .slice _ | .pointer _ | .func .. | .map _ _ => True | _ => False) → a.isS = false → a ≠ .junk →
      ∃ d, P.underlying t = some d ∧ (d.isRow = true ↔ a.isS = true) ∧ cs.length = P.cellsOf t ∧ a ≠ .junk := fun d h0 h1 h2 h3 h4 h5 => by
    obtain ⟨v, rfl⟩ := hr.single h5 h4
    exact ⟨d, h2, by simp [h0, h4], by rw [T.one h1 h2 (by cases d <;> simp_all)]; rfl, h5⟩
  cases a with
  | junk => simp [fits] at h
  | tup => simp [fits] at h
  | int k n =>
    simp only [fits] at h
    split at h
    · rename_i k' hk; exact key _ rfl (ty_int hk).1 (ty_int hk).2 trivial rfl (by simp)
    · cases h
  | bool b =>
    simp only [fits] at h
    split at h
    · rename_i hk; exact key _ rfl (ty_bool hk).1 (ty_bool hk).2 trivial rfl (by simp)
    · cases h
  | str b =>
    simp only [fits] at h
    split at h
    · rename_i hk; exact key _ rfl (ty_str hk).1 (ty_str hk).2 trivial rfl (by simp)
    · cases h
  | dat t' d =>
    simp [fits] at h; subst h
    have hl := fields_len hr rfl rfl
    cases hr with
    | dat ht h => exact ⟨_, ht, by simp [A.isS], hl, by simp⟩
  | st t' d =>
    simp [fits] at h; subst h
    have hl := fields_len hr rfl rfl
    cases hr with
    | st ht h => exact ⟨_, ht, by simp [A.isS], hl, by simp⟩
  | nsl =>
    simp only [fits] at h
    split at h
    · rename_i e hk; exact key _ rfl (ty_slice hk).1 (ty_slice hk).2 trivial rfl (by simp)
    · cases h
  | snap e nil es f =>
    simp only [fits] at h
    split at h
    · rename_i e' hk; exact key _ rfl (ty_slice hk).1 (ty_slice hk).2 trivial rfl (by simp)
    · cases h
  | own o =>
    simp only [fits] at h
    split at h
    · rename_i hk hob; exact key _ rfl (ty_slice hk).1 (ty_slice hk).2 trivial rfl (by simp)
    · rename_i hk hob; exact key _ rfl (ty_slice hk).1 (ty_slice hk).2 trivial rfl (by simp)
    · cases h
  | sub o lo n f =>
    simp only [fits] at h
    split at h
    · rename_i hk hob; exact key _ rfl (ty_slice hk).1 (ty_slice hk).2 trivial rfl (by simp)
    · cases h
  | ref o p =>
    simp only [fits] at h
    split at h
    · rename_i hk; exact key _ rfl (ty_ptr hk).1 (ty_ptr hk).2 trivial rfl (by simp)
    · cases h
  | eref o i p =>
    simp only [fits] at h
    split at h
    · rename_i hk; exact key _ rfl (ty_ptr hk).1 (ty_ptr hk).2 trivial rfl (by simp)
    · cases h
  | dref o p =>
    simp only [fits] at h
    split at h
    · rename_i hk; exact key _ rfl (ty_ptr hk).1 (ty_ptr hk).2 trivial rfl (by simp)
    · cases h
  | nptr =>
    simp only [fits] at h
    split at h
    · rename_i hk; exact key _ rfl (ty_ptr hk).1 (ty_ptr hk).2 trivial rfl (by simp)
    · cases h
  | fn f a b =>
    simp only [fits] at h
    split at h
    · rename_i hk
      obtain ⟨hl, a, b, c, hu⟩ := ty_func hk
      exact key _ rfl hl hu trivial rfl (by simp)
    · cases h
  | mapr o =>
    simp only [fits] at h
    split at h
    · rename_i hk; exact key _ rfl (ty_map hk).1 (ty_map hk).2 trivial rfl (by simp)
    · cases h
theorem mk_kind (T : TabOk P) {n : Nat} {t : TypeId} {d : D} (h : plainT P n t = true) : ∃ e, P.underlying t = some e ∧ (e.isRow = true ↔ (mk P t d).isS = true) ∧ mk P t d ≠ .junk := by
  cases n with
  | zero => simp [plainT] at h
  | succ n =>
    simp only [plainT] at h
    unfold mk
    split at h <;> rename_i hk
    · exact ⟨_, (ty_int hk).2, by simp [A.isS], by simp⟩
    · exact ⟨_, (ty_bool hk).2, by simp [A.isS], by simp⟩
    · exact ⟨_, (ty_str hk).2, by simp [A.isS], by simp⟩
    · exact ⟨_, (ty_slice hk).2, by simp [A.isS], by simp⟩
    · obtain ⟨_, fa, hu, _⟩ := ty_struct hk
      exact ⟨_, hu, by simp [A.isS], by simp⟩
    · cases h

theorem VShape_of {a : A} {v : Value} (hv : v.oneCell' = true) (hs : a.isS = false) : VShape a v := by
  cases v <;> first | exact hs | simp [Value.oneCell'] at hv
theorem VRel.notup {a : A} {cs : List Value} (h : CRel P w Γ a cs) : ∀ vs, a ≠ .tup vs := by
  intro vs e; subst e; cases h
/-- A variable is read. -/
theorem run_load (T : TabOk P) {t : TypeId} {d : TypeDesc} {a : A} {b o : Nat} {cs : List Value} (hc : CellsAt w b o cs) (hr : CRel P w Γ a cs) (hu : P.underlying t = some d) (hk : d.isRow = true ↔ a.isS = true)
    (hl : cs.length = P.cellsOf t) (hj : a ≠ .junk) : ∃ v, (Instr.loadAt t (.pointer (some ⟨b, o, none⟩))).run P w = .ok v w ∧ VRel P w Γ a v := by
  obtain ⟨i, hi⟩ := info_of_underlying hu
  have hsz : (P.info? t).map (·.size) = some cs.length := by rw [hl]; simp [Program.cellsOf, hi]
  cases hs : a.isS with
  | true =>
    exact ⟨_, run_loadAt_mid w b o t cs d hc hu (hk.2 hs) hsz, .mkS (by simpa using hr) hs (VRel.notup hr)⟩
  | false =>
    obtain ⟨v, rfl⟩ := hr.single hj hs
    have hd : d.isRow = false := by cases h : d.isRow with | false => rfl | true => rw [hk.1 h] at hs; cases hs
    have hv := hr.oneC v (by simp)
    refine ⟨v, ?_, .mk1 hr hs (VRel.notup hr) (VShape_of hv hs)⟩
    have hagg : (isAgg t).run P w = .ok false w := by
      unfold isAgg
      rw [Sem.run_bind, run_underlying hu w]
      cases d <;> simp_all
    have h0 := hc 0 v (by simp)
    simp only [Nat.add_zero] at h0
    simp [Instr.loadAt, Instr.sureAddr, loadVar, hagg, h0]

/-! ### The machine writes -/
theorem setCells_heap (b : Nat) : ∀ (xs : List Value) (o : Nat) (w : World) (c : Array Value) (ty : TypeId), w.heap[b]? = some (.cells c ty (0, 0)) → o + xs.length ≤ c.size →
    ∃ c' : Array Value, (w.setCells b o xs).heap[b]? = some (.cells c' ty (0, 0)) ∧ c'.toList = ow c.toList o xs
  | [], o, w, c, ty, h, _ => ⟨c, h, by simp [ow]⟩
  | v :: r, o, w, c, ty, h, hl => by
    simp at hl
    have h1 := heap_setCell_same w b o c ty v h
    obtain ⟨c', h2, h3⟩ := setCells_heap b r (o + 1) _ _ ty h1 (by simp; omega)
    refine ⟨c', h2, ?_⟩
    rw [h3]
    apply List.ext_getElem?
    intro i
    rw [ow_get (by simp; omega), ow_get (by simp; omega)]
    simp only [Array.toList_setIfInBounds, List.getElem?_set, List.length_cons]
    by_cases h1 : i < o
    · rw [if_pos (by omega), if_neg (by omega), if_pos h1]
    · by_cases h2 : i = o
      · subst h2
        rw [if_pos (by omega), if_pos rfl, if_pos (by simp; omega), if_neg (by omega), if_pos (by omega)]
        simp
      · rw [if_neg (by omega), if_neg h1]
        by_cases h3 : i < o + 1 + r.length
        · rw [if_pos h3, if_pos (by omega)]
          obtain ⟨k, hk⟩ : ∃ k, i - o = k + 1 := ⟨i - o - 1, by omega⟩
          rw [hk]
          simp only [List.getElem?_cons_succ]
          congr 1; omega
        · rw [if_neg h3, if_neg (by omega), if_neg (by omega)]
theorem setCells_other (b : Nat) : ∀ (xs : List Value) (o : Nat) (w : World) (k : Nat), k ≠ b → (w.setCells b o xs).heap[k]? = w.heap[k]?
  | [], _, _, _, _ => rfl
  | v :: r, o, w, k, h => (setCells_other b r (o + 1) _ k h).trans (heap_setCell_other w ⟨b, o, none⟩ k v h)
theorem setCells_os (b : Nat) : ∀ (xs : List Value) (o : Nat) (w : World), (w.setCells b o xs).os = w.os ∧ (w.setCells b o xs).tape = w.tape ∧ (w.setCells b o xs).output = w.output ∧ (w.setCells b o xs).heap.size = w.heap.size
  | [], _, _ => ⟨rfl, rfl, rfl, rfl⟩
  | v :: r, o, w => by
    obtain ⟨h1, h2, h3, h4⟩ := setCells_os b r (o + 1) (w.setCell ⟨b, o, none⟩ v)
    refine ⟨h1.trans rfl, h2.trans rfl, h3.trans rfl, h4.trans ?_⟩
    simp
theorem there_of {b o n : Nat} {c : Array Value} {ty : TypeId} (h : w.heap[b]? = some (.cells c ty (0, 0))) (hn : o + n ≤ c.size) : w.there b o n := fun j hj => by
  refine ⟨?_, frozen_of_row w b (o + j) c ty h⟩
  rw [cell_of_row w b (o + j) c ty (0, 0) h]
  simp; omega
theorem run_store' {t : TypeId} {v : Value} {b o : Nat} {c : Array Value} {ty : TypeId} (h : w.heap[b]? = some (.cells c ty (0, 0))) (hi : ∃ i, P.info? t = some i) (hl : v.cells.toList.length = P.cellsOf t) (hn : o + v.cells.toList.length ≤ c.size)
    (h1 : ∀ x ∈ v.cells.toList, x.oneCell' = true) : (Instr.storeAt t (.pointer (some ⟨b, o, none⟩)) v).run P w = .ok () (w.setCells b o v.cells.toList) := by
  obtain ⟨i, hi⟩ := hi
  have ht := there_of h hn
  have := run_storeCells_cells (P := P) b o v.cells.toList 0 w (fun j hj => by simpa using (ht j hj).1) (fun j hj => by simpa using (ht j hj).2) h1
  have hs : v.cells.size = i.size := by simpa [Program.cellsOf, hi] using hl
  simp only [Nat.add_zero] at this
  simp [Instr.storeAt, Instr.sureAddr, storeVar, sizeOf, typeInfo, hi, hs, this]

/-! ### Parts -/
theorem foldl_ow (off : Nat) : ∀ (l : List Value) (k : Nat) (cells : Array Value), off + k + l.length ≤ cells.size →
    ((l.zipIdx k).foldl (fun cs (x : Value × Nat) => cs.setIfInBounds (off + x.2) x.1) cells).toList = ow cells.toList (off + k) l
  | [], k, cells, _ => by simp [ow]
  | v :: r, k, cells, h => by
    simp at h
    simp only [List.zipIdx_cons, List.foldl_cons]
    rw [foldl_ow off r (k + 1) _ (by simp; omega)]
    apply List.ext_getElem?
    intro i
    rw [ow_get (by simp; omega), ow_get (by simp; omega)]
    simp only [Array.toList_setIfInBounds, List.getElem?_set, List.length_cons]
    by_cases h1 : i < off + k
    · rw [if_pos (by omega), if_neg (by omega), if_pos h1]
    · by_cases h2 : i = off + k
      · subst h2
        rw [if_pos (by omega), if_pos rfl, if_pos (by simp; omega), if_neg (by omega), if_pos (by omega)]
        simp
      · rw [if_neg (by omega), if_neg h1]
        by_cases h3 : i < off + (k + 1) + r.length
        · rw [if_pos h3, if_pos (by omega)]
          obtain ⟨m, hm⟩ : ∃ m, i - (off + k) = m + 1 := ⟨i - (off + k) - 1, by omega⟩
          rw [hm]
          simp only [List.getElem?_cons_succ]
          congr 1; omega
        · rw [if_neg h3, if_neg (by omega), if_neg (by omega)]
theorem fill_ow {place : Nat → Option (Nat × Nat)} (pl : Nat → Nat) : ∀ (ps : List (Nat × Value)) (cells : Array Value), (∀ p ∈ ps, place p.1 = some (pl p.1, p.2.cells.size) ∧ pl p.1 + p.2.cells.size ≤ cells.size) →
    ∃ c' : Array Value, Instr.fill place cells ps = some c' ∧ c'.size = cells.size ∧ c'.toList = ps.foldl (fun cs p => ow cs (pl p.1) p.2.cells.toList) cells.toList
  | [], cells, _ => ⟨cells, rfl, rfl, rfl⟩
  | (i, v) :: r, cells, h => by
    obtain ⟨h1, h2⟩ := h (i, v) (by simp)
    simp only at h1 h2
    have e : (v.cells.zipIdx.foldl (fun cs (x : Value × Nat) => cs.setIfInBounds (pl i + x.2) x.1) cells).toList = ow cells.toList (pl i) v.cells.toList := by
      rw [← Array.foldl_toList, Array.toList_zipIdx]
      have := foldl_ow (pl i) v.cells.toList 0 cells (by simpa using h2)
      simpa using this
    have esz : (v.cells.zipIdx.foldl (fun cs (x : Value × Nat) => cs.setIfInBounds (pl i + x.2) x.1) cells).size = cells.size := by
      rw [← Array.length_toList, e, ow_length (by simpa using h2)]; simp
    obtain ⟨c', h3, h4, h5⟩ := fill_ow pl r (v.cells.zipIdx.foldl (fun cs (x : Value × Nat) => cs.setIfInBounds (pl i + x.2) x.1) cells) (fun p hp => by rw [esz]; exact h p (List.mem_cons_of_mem _ hp))
    refine ⟨c', ?_, h4.trans esz, ?_⟩
    · simp only [Instr.fill, h1]
      rw [if_neg (by simp; omega)]
      exact h3
    · rw [h5, e]; rfl

end
end Go.Ev
