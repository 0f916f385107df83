/- The evaluator E: what is forgotten. The evaluator E: code, loops, calls. -/
import Derived.Test.YtakjjijmcnhpoaaGreatEvK
namespace Go.Ev
open Go

section
variable {P : Program} {w : World} {Γ : Env}

/-- One value says less than another one. -/
structure Less (P : Program) (w : World) (Γ : Env) (a a' : A) : Prop where
  rel : ∀ cs, CRel P w Γ a cs → CRel P w Γ a' cs
  fit : ∀ t, Fit P Γ t a → Fit P Γ t a'
  isS : a' = .junk ∨ a'.isS = a.isS
  junk : a = .junk → a' = .junk
  tup : a' = .junk ∨ ∀ vs, a = .tup vs → ∃ us, a' = .tup us ∧ us.length = vs.length ∧ ∀ (i : Nat) x y, vs[i]? = some x → us[i]? = some y → ∀ v, VRel1 P w Γ x v → VRel1 P w Γ y v
  nt : ∀ us, a' = .tup us → ∃ vs, a = .tup vs
theorem Less.refl (a : A) : Less P w Γ a a := ⟨fun _ h => h, fun _ h => h, .inr rfl, fun h => h, .inr fun vs h => ⟨vs, h, rfl, fun i x y hx hy v hv => by rw [hx] at hy; cases hy; exact hv⟩, fun us h => ⟨us, h⟩⟩
theorem Less.toJunk (a : A) : Less P w Γ a .junk := ⟨fun _ h => .junk h.oneC, fun _ _ => trivial, .inl rfl, fun _ => rfl, .inl rfl, fun us h => by cases h⟩
theorem Less.one {a a' : A} (h : Less P w Γ a a') {v : Value} (hv : VRel1 P w Γ a v) : VRel1 P w Γ a' v := by
  rcases hv with hv | ⟨h1, h2⟩
  · exact .inl (h.junk hv)
  · rcases h.isS with h3 | h3
    · exact .inl h3
    · refine .inr ⟨h.rel _ h1, ?_⟩
      cases v <;> simp_all [VShape]
theorem Less.vrel {a a' : A} (h : Less P w Γ a a') {v : Value} (hv : VRel P w Γ a v) : VRel P w Γ a' v := by
  by_cases ht : ∃ vs, a = .tup vs
  · obtain ⟨vs, rfl⟩ := ht
    rcases h.tup with rfl | h2
    · exact .junk
    · obtain ⟨us, rfl, hl, hu⟩ := h2 vs rfl
      obtain ⟨xs, h1, h3, h4⟩ := hv
      refine ⟨xs, h1, by rw [hl]; exact h3, fun i y x hy hx => ?_⟩
      have hi : i < vs.length := by rw [← hl]; exact (List.getElem?_eq_some_iff.1 hy).1
      exact hu i vs[i] y (List.getElem?_eq_getElem hi) hy x (h4 i vs[i] x (List.getElem?_eq_getElem hi) hx)
  · have ht' : ∀ us, a' ≠ .tup us := fun us e => ht (h.nt us e)
    exact .of1 (h.one (hv.to1 fun vs e => ht ⟨vs, e⟩)) ht'

theorem getD_mid (pre : List D) (d : D) (post : List D) (x : D) : (pre ++ d :: post).getD pre.length x = d := by
  rw [List.getD_eq_getElem?_getD, List.getElem?_append_right (Nat.le_refl _)]; simp
theorem getD_mid1 (pre : List D) (d e : D) (post : List D) (x : D) : (pre ++ d :: e :: post).getD (pre.length + 1) x = e := by
  rw [List.getD_eq_getElem?_getD, List.getElem?_append_right (by omega)]; simp

mutual
theorem look_len : ∀ (p : Pat) {a : A} {l : List D}, p.look a = some l → l.length = p.leaves
  | .junk, a, l, h => by simp [Pat.look] at h; subst h; rfl
  | .int k, a, l, h => by
    cases a <;> simp [Pat.look] at h
    obtain ⟨_, rfl⟩ := h; rfl
  | .bool, a, l, h => by cases a <;> simp [Pat.look] at h; subst h; rfl
  | .str, a, l, h => by cases a <;> simp [Pat.look] at h; subst h; rfl
  | .dat t, a, l, h => by
    cases a <;> simp [Pat.look] at h
    obtain ⟨_, rfl⟩ := h; rfl
  | .st t fs, a, l, h => by
    cases a <;> simp [Pat.look] at h
    simp only [Pat.leaves]
    exact lookL_len fs h.2
  | .nsl, a, l, h => by cases a <;> simp [Pat.look] at h; subst h; rfl
  | .snap e f, a, l, h => by
    cases a <;> simp [Pat.look] at h
    obtain ⟨_, rfl⟩ := h; rfl
  | .own o, a, l, h => by
    cases a <;> simp [Pat.look] at h
    obtain ⟨_, rfl⟩ := h; rfl
  | .sub o f, a, l, h => by
    cases a <;> simp [Pat.look] at h
    obtain ⟨_, rfl⟩ := h; rfl
  | .ref o q, a, l, h => by
    cases a <;> simp [Pat.look] at h
    obtain ⟨_, rfl⟩ := h; rfl
  | .fn f x y, a, l, h => by
    cases a <;> simp only [Pat.look] at h <;> try cases h
    split at h
    · split at h
      · rename_i l1 l2 h1 h2
        cases h
        simp only [Pat.leaves, List.length_append, lookL_len x h1, lookL_len y h2]
      · cases h
    · cases h
  | .mapr o, a, l, h => by
    cases a <;> simp [Pat.look] at h
    obtain ⟨_, rfl⟩ := h; rfl
  | .dref t, a, l, h => by
    cases a <;> simp [Pat.look] at h
    obtain ⟨_, rfl⟩ := h; rfl
  | .nptr, a, l, h => by cases a <;> simp [Pat.look] at h; subst h; rfl
  | .tup vs, a, l, h => by
    cases a <;> simp [Pat.look] at h
    simp only [Pat.leaves]
    exact lookL_len vs h
theorem lookL_len : ∀ (ps : List Pat) {as : List A} {l : List D}, Pat.lookL ps as = some l → l.length = Pat.leavesL ps
  | [], as, l, h => by
    cases as <;> simp [Pat.lookL] at h
    subst h; rfl
  | p :: ps, as, l, h => by
    cases as with
    | nil => simp [Pat.lookL] at h
    | cons a as =>
      simp only [Pat.lookL] at h
      split at h
      · rename_i l1 l2 h1 h2
        cases h
        simp only [Pat.leavesL, List.length_append, look_len p h1, lookL_len ps h2]
      · cases h
end

mutual
theorem inst_less : ∀ (p : Pat) {a : A} {l : List D}, p.look a = some l → ∀ (pre post : List D), Less P w Γ a (p.inst (pre ++ (l ++ post)) pre.length)
  | .junk, a, l, h, pre, post => by simp only [Pat.inst]; exact .toJunk a
  | .int k, a, l, h, pre, post => by
    cases a <;> simp [Pat.look] at h
    obtain ⟨rfl, rfl⟩ := h
    simp only [Pat.inst, List.singleton_append, getD_mid, D.n]; exact .refl _
  | .bool, a, l, h, pre, post => by
    cases a <;> simp [Pat.look] at h
    subst h
    simp only [Pat.inst, List.singleton_append, getD_mid, D.b]; exact .refl _
  | .str, a, l, h, pre, post => by
    cases a <;> simp [Pat.look] at h
    subst h
    simp only [Pat.inst, List.singleton_append, getD_mid, D.s]; exact .refl _
  | .dat t, a, l, h, pre, post => by
    cases a <;> simp [Pat.look] at h
    obtain ⟨rfl, rfl⟩ := h
    simp only [Pat.inst, List.singleton_append, getD_mid]; exact .refl _
  | .st t fs, a, l, h, pre, post => by
    cases a <;> simp [Pat.look] at h
    rename_i t' as
    obtain ⟨rfl, h⟩ := h
    obtain ⟨h1, h2⟩ := instL_less fs h pre post
    simp only [Pat.inst]
    refine ⟨fun cs hc => ?_, fun t h => h, .inr rfl, fun h => (by cases h), .inr fun vs h => (by cases h), fun us h => (by cases h)⟩
    cases hc with
    | st ht hl hn ho hy hx hh =>
      refine .st ht hl (by rw [h1]; exact hn) ho (fun i f a' hf ha' => ?_) hx fun i f a' hf ha' => ?_
      · obtain ⟨a, ha, hle⟩ := h2 i a' ha'
        exact hle.fit _ (hy i f a hf ha)
      · obtain ⟨a, ha, hle⟩ := h2 i a' ha'
        exact hle.rel _ (hh i f a hf ha)
  | .nsl, a, l, h, pre, post => by
    cases a <;> simp [Pat.look] at h
    simp only [Pat.inst]; exact .refl _
  | .snap e f, a, l, h, pre, post => by
    cases a <;> simp [Pat.look] at h
    rename_i e' n es f'
    obtain ⟨⟨rfl, hf⟩, rfl⟩ := h
    simp only [Pat.inst, List.cons_append, List.nil_append, getD_mid, getD_mid1, D.b, D.es]
    refine ⟨fun cs hc => ?_, fun t h => h, .inr rfl, fun h => (by cases h), .inr fun vs h => (by cases h), fun us h => (by cases h)⟩
    cases hc with
    | snapNil hn he => exact .snapNil hn he
    | snapE hn he => exact .snapE hn he
    | snap a1 a2 a3 a4 a5 css a6 a7 =>
      refine .snap a1 a2 a3 a4 (fun hh => a5 ?_) css a6 a7
      rcases hf with hf | hf
      · exact hf
      · rw [hh] at hf; cases hf
  | .own o, a, l, h, pre, post => by
    cases a <;> simp [Pat.look] at h
    obtain ⟨rfl, rfl⟩ := h
    simp only [Pat.inst]; exact .refl _
  | .sub o f, a, l, h, pre, post => by
    cases a <;> simp [Pat.look] at h
    rename_i o' lo n f'
    obtain ⟨⟨rfl, hf⟩, rfl⟩ := h
    simp only [Pat.inst, List.cons_append, List.nil_append, getD_mid, getD_mid1, D.n]
    have e1 : tn (ilen lo) = lo := rfl
    have e2 : tn (ilen n) = n := rfl
    rw [e1, e2]
    refine ⟨fun cs hc => ?_, fun t h => h, .inr rfl, fun h => (by cases h), .inr fun vs h => (by cases h), fun us h => (by cases h)⟩
    cases hc with
    | subNil hp => exact .subNil hp
    | sub hp hl hc hs hfu ho =>
      refine .sub hp hl hc hs (fun hh => hfu ?_) ho
      rcases hf with hf | hf
      · exact hf
      · rw [hh] at hf; cases hf
  | .ref o q, a, l, h, pre, post => by
    cases a <;> simp [Pat.look] at h
    obtain ⟨⟨rfl, rfl⟩, rfl⟩ := h
    simp only [Pat.inst]; exact .refl _
  | .fn f x y, a, l, h, pre, post => by
    cases a <;> simp only [Pat.look] at h <;> try cases h
    rename_i f' fa ca
    split at h
    · rename_i hcc
      simp only [Bool.and_eq_true, beq_iff_eq] at hcc
      obtain ⟨⟨rfl, hk1⟩, hk2⟩ := hcc
      split at h
      · rename_i l1 l2 h1 h2
        cases h
        obtain ⟨g1, g2⟩ := instL_less x h1 pre (l2 ++ post)
        obtain ⟨g3, g4⟩ := instL_less y h2 (pre ++ l1) post
        have e1 : pre ++ (l1 ++ l2 ++ post) = pre ++ (l1 ++ (l2 ++ post)) := by simp
        have e2 : pre ++ (l1 ++ l2 ++ post) = pre ++ l1 ++ (l2 ++ post) := by simp
        have e3 : pre.length + Pat.leavesL x = (pre ++ l1).length := by rw [List.length_append, lookL_len x h1]
        simp only [Pat.inst]
        rw [e3]
        conv => rhs; rw [show Pat.instL (pre ++ (l1 ++ l2 ++ post)) x pre.length = Pat.instL (pre ++ (l1 ++ (l2 ++ post))) x pre.length by rw [e1], show Pat.instL (pre ++ (l1 ++ l2 ++ post)) y (pre ++ l1).length = Pat.instL (pre ++ l1 ++ (l2 ++ post)) y (pre ++ l1).length by rw [e2]]
        refine ⟨fun cs hc => ?_, fun t h => h, .inr rfl, fun h => (by cases h), .inr fun vs h => (by cases h), fun us h => (by cases h)⟩
        cases hc with
        | fn s1 s2 sa sc ha hcc =>
          have known : ∀ {ps : List Pat} {ls : List D} {k i : Nat} {a' : A}, ps.all Pat.known = true → (Pat.instL ls ps k)[i]? = some a' → a' ≠ .junk := fun {ps} => by
            induction ps with
            | nil => intro ls k i a' _ h; simp [Pat.instL] at h
            | cons p ps ih =>
              intro ls k i a' hk h
              simp only [List.all_cons, Bool.and_eq_true] at hk
              simp only [Pat.instL] at h
              cases i with
              | zero =>
                simp at h; subst h
                intro hj
                cases p <;> simp [Pat.inst, Pat.known] at hj hk
              | succ i => exact ih hk.2 (by simpa using h)
          refine .fn (by rw [g1]; exact s1) (by rw [g3]; exact s2) (fun i a' v ha' hv => ?_) (fun i a' v ha' hv => ?_) (fun i a' v ha' hv => ?_) (fun i a' v ha' hv => ?_)
          · obtain ⟨a, ha2, hle⟩ := g2 i a' ha'
            have := hle.isS.resolve_left (known hk1 ha')
            have hs := sa i a v ha2 hv
            cases v <;> simp_all [VShape]
          · obtain ⟨a, ha2, hle⟩ := g4 i a' ha'
            have := hle.isS.resolve_left (known hk2 ha')
            have hs := sc i a v ha2 hv
            cases v <;> simp_all [VShape]
          · obtain ⟨a, ha2, hle⟩ := g2 i a' ha'
            exact hle.rel _ (ha i a v ha2 hv)
          · obtain ⟨a, ha2, hle⟩ := g4 i a' ha'
            exact hle.rel _ (hcc i a v ha2 hv)
      · cases h
    · cases h
  | .mapr o, a, l, h, pre, post => by
    cases a <;> simp [Pat.look] at h
    obtain ⟨rfl, rfl⟩ := h
    simp only [Pat.inst]; exact .refl _
  | .dref t, a, l, h, pre, post => by
    cases a <;> simp [Pat.look] at h
    obtain ⟨rfl, rfl⟩ := h
    simp only [Pat.inst, List.singleton_append, getD_mid]; exact .refl _
  | .nptr, a, l, h, pre, post => by
    cases a <;> simp [Pat.look] at h
    simp only [Pat.inst]; exact .refl _
  | .tup vs, a, l, h, pre, post => by
    cases a <;> simp [Pat.look] at h
    obtain ⟨h1, h2⟩ := instL_less vs h pre post
    simp only [Pat.inst]
    refine ⟨fun cs hc => (by cases hc), fun t h => trivial, .inr rfl, fun h => (by cases h), .inr fun vs h => ?_, fun us h => ⟨_, rfl⟩⟩
    cases h
    refine ⟨_, rfl, h1, fun i x y hx hy v hv => ?_⟩
    obtain ⟨a, ha, hle⟩ := h2 i y hy
    rw [hx] at ha; cases ha
    exact hle.one hv
theorem instL_less : ∀ (ps : List Pat) {as : List A} {l : List D}, Pat.lookL ps as = some l → ∀ (pre post : List D), (Pat.instL (pre ++ (l ++ post)) ps pre.length).length = as.length ∧
    ∀ (i : Nat) a', (Pat.instL (pre ++ (l ++ post)) ps pre.length)[i]? = some a' → ∃ a, as[i]? = some a ∧ Less P w Γ a a'
  | [], as, l, h, pre, post => by
    cases as <;> simp [Pat.lookL] at h
    exact ⟨rfl, fun i a' h => by simp [Pat.instL] at h⟩
  | p :: ps, as, l, h, pre, post => by
    cases as with
    | nil => simp [Pat.lookL] at h
    | cons a as =>
      simp only [Pat.lookL] at h
      split at h
      · rename_i l1 l2 h1 h2
        cases h
        have g0 := inst_less p h1 pre (l2 ++ post)
        obtain ⟨g1, g2⟩ := instL_less ps h2 (pre ++ l1) post
        have e1 : pre ++ (l1 ++ l2 ++ post) = pre ++ (l1 ++ (l2 ++ post)) := by simp
        have e2 : pre ++ (l1 ++ (l2 ++ post)) = pre ++ l1 ++ (l2 ++ post) := by simp
        have e3 : pre.length + p.leaves = (pre ++ l1).length := by rw [List.length_append, look_len p h1]
        rw [e1]
        simp only [Pat.instL]
        rw [e3]
        refine ⟨?_, fun i a' ha => ?_⟩
        · rw [e2, List.length_cons, g1]; rfl
        · cases i with
          | zero => simp at ha; subst ha; exact ⟨a, rfl, g0⟩
          | succ i =>
            rw [e2] at ha
            obtain ⟨b, hb, hle⟩ := g2 i a' (by simpa using ha)
            exact ⟨b, by simpa using hb, hle⟩
      · cases h
end

/-- One thing says less than another one. -/
structure LessO (P : Program) (w : World) (Γ : Env) (a a' : Ob) : Prop where
  shape : ∀ p, Shape a p → Shape a' p
  cont : ∀ p, Content P w Γ a p → Content P w Γ a' p
  rw : a'.rw = true → a.rw = true
theorem LessO.refl (a : Ob) : LessO P w Γ a a := ⟨fun _ h => h, fun _ h => h, fun h => h⟩
theorem LessO.toDead (a : Ob) : LessO P w Γ a .dead := ⟨fun _ _ => trivial, fun _ _ => trivial, fun h => by cases h⟩

theorem olook_len : ∀ (p : OPat) {a : Ob} {l : List D}, p.look a = some l → l.length = p.leaves
  | .dead, a, l, h => by simp [OPat.look] at h; subst h; rfl
  | .var t p, a, l, h => by
    cases a <;> simp [OPat.look] at h
    exact look_len p h.2
  | .arr e n f rw, a, l, h => by
    cases a <;> simp [OPat.look] at h
    obtain ⟨_, rfl⟩ := h; rfl
  | .arrA e ps f rw, a, l, h => by
    cases a <;> simp [OPat.look] at h
    exact lookL_len ps h.2
  | .map k v, a, l, h => by cases a <;> simp [OPat.look] at h
theorem oinst_less (p : OPat) {a : Ob} {l : List D} (h : p.look a = some l) (pre post : List D) : LessO P w Γ a (p.inst (pre ++ (l ++ post)) pre.length) := by
  cases p with
  | dead => simp only [OPat.inst]; exact .toDead a
  | var t p =>
    cases a <;> simp [OPat.look] at h
    obtain ⟨rfl, h⟩ := h
    have hl := inst_less (P := P) (w := w) (Γ := Γ) p h pre post
    simp only [OPat.inst]
    refine ⟨fun q hq => ?_, fun q hq => ?_, fun _ => rfl⟩
    · cases q <;> exact hq
    · cases q with
      | var b t' => exact ⟨hl.fit _ hq.1, fun c ty fz hc => hl.rel _ (hq.2 c ty fz hc)⟩
      | _ => trivial
  | arr e n f rw =>
    cases a <;> simp [OPat.look] at h
    rename_i e' es n' f' rw'
    obtain ⟨⟨⟨⟨rfl, hn⟩, hf⟩, hrw⟩, rfl⟩ := h
    have hn : n = n' := by cases n <;> cases n' <;> simp_all [beqb, bno]
    subst hn
    simp only [OPat.inst, List.singleton_append, getD_mid, D.es]
    refine ⟨fun q hq => ?_, fun q hq => ?_, fun h => ?_⟩
    · cases q with
      | nil e2 => exact hq
      | arr b len size e2 full =>
        obtain ⟨h1, h2, h3, h4⟩ := hq
        refine ⟨h1, h2, h3, fun hh => h4 ?_⟩
        rcases hf with hf | hf
        · exact hf
        · rw [hh] at hf; cases hf
      | _ => exact hq
    · cases q <;> exact hq
    · have h : rw = true := h
      rcases hrw with hrw | hrw
      · exact hrw
      · rw [h] at hrw; cases hrw
  | arrA e ps f rw =>
    cases a <;> simp [OPat.look] at h
    rename_i e' as f' rw'
    obtain ⟨⟨⟨rfl, hf⟩, hrw⟩, h⟩ := h
    obtain ⟨g1, g2⟩ := instL_less (P := P) (w := w) (Γ := Γ) ps h pre post
    simp only [OPat.inst]
    refine ⟨fun q hq => ?_, fun q hq => ?_, fun h => ?_⟩
    · cases q with
      | arr b len size e2 full =>
        obtain ⟨h1, h2, h4⟩ := hq
        refine ⟨h1, by rw [g1]; exact h2, fun hh => h4 ?_⟩
        rcases hf with hf | hf
        · exact hf
        · rw [hh] at hf; cases hf
      | _ => exact hq
    · cases q with
      | arr b len size e2 full =>
        intro c ty fz hc i a' ha'
        obtain ⟨a, ha, hle⟩ := g2 i a' ha'
        obtain ⟨h1, h2⟩ := hq c ty fz hc i a ha
        exact ⟨hle.fit _ h1, hle.rel _ h2⟩
      | _ => trivial
    · have h : rw = true := h
      rcases hrw with hrw | hrw
      · exact hrw
      · rw [h] at hrw; cases hrw
  | map k v => cases a <;> simp [OPat.look] at h
theorem oinstL_less : ∀ (ps : List OPat) {as : List Ob} {l : List D}, OPat.lookL ps as = some l → ∀ (pre : List D), (OPat.instL (pre ++ l) ps pre.length).length = as.length ∧
    ∀ (i : Nat) a, as[i]? = some a → ∃ a', (OPat.instL (pre ++ l) ps pre.length)[i]? = some a' ∧ LessO P w Γ a a'
  | [], as, l, h, pre => by
    cases as <;> simp [OPat.lookL] at h
    exact ⟨rfl, fun i a h => by simp at h⟩
  | p :: ps, as, l, h, pre => by
    cases as with
    | nil => simp [OPat.lookL] at h
    | cons a as =>
      simp only [OPat.lookL] at h
      split at h
      · rename_i l1 l2 h1 h2
        cases h
        have g0 := oinst_less (P := P) (w := w) (Γ := Γ) p h1 pre l2
        obtain ⟨g1, g2⟩ := oinstL_less ps h2 (pre ++ l1)
        have e3 : pre.length + p.leaves = (pre ++ l1).length := by rw [List.length_append, olook_len p h1]
        have e2 : pre ++ (l1 ++ l2) = pre ++ l1 ++ l2 := by simp
        simp only [OPat.instL]
        rw [e3]
        refine ⟨?_, fun i b hb => ?_⟩
        · rw [e2, List.length_cons, g1]; rfl
        · cases i with
          | zero => simp at hb; subst hb; exact ⟨_, rfl, g0⟩
          | succ i =>
            obtain ⟨a', ha, hle⟩ := g2 i b (by simpa using hb)
            exact ⟨a', by rw [e2]; simpa using ha, hle⟩
      · cases h

/-- A state that says less. -/
theorem Rel.less {fl : Nat} {st st' : St} {act : Act} (h : Rel P fl st Γ w act) (hl : st'.tmps.length = st.tmps.length) (ht : ∀ (i : Nat) a', st'.tmps[i]? = some a' → ∃ a, st.tmps[i]? = some a ∧ Less P w Γ a a')
    (hol : st'.obs.length = st.obs.length) (ho : ∀ (i : Nat) a, st.obs[i]? = some a → ∃ a', st'.obs[i]? = some a' ∧ LessO P w Γ a a') : Rel P fl st' Γ w act := by
  refine ⟨⟨fun o p hp => ?_, h.mem.inj, h.mem.fzlt⟩, fun o p b ob hfl hp hb hob hrw => ?_, fun t => ?_, by rw [hl]; exact h.size, h.ndef⟩
  · obtain ⟨ob, h1, h2, h3, h4⟩ := h.mem.ob o p hp
    obtain ⟨ob', g1, g2⟩ := ho o ob h1
    exact ⟨ob', g1, g2.shape p h2, h3, fun hc => g2.cont p (h4 hc)⟩
  · obtain ⟨ob0, h1, _⟩ := h.mem.ob o p hp
    obtain ⟨ob', g1, g2⟩ := ho o ob0 h1
    rw [hob] at g1; cases g1
    exact h.free o p b ob0 hfl hp hb h1 (g2.rw hrw)
  · by_cases hlt : t < st'.tmps.length
    · obtain ⟨a, ha, hle⟩ := ht t st'.tmps[t] (List.getElem?_eq_getElem hlt)
      have := h.tmps t
      rw [List.getD_eq_getElem?_getD, ha] at this
      rw [List.getD_eq_getElem?_getD, List.getElem?_eq_getElem hlt]
      exact hle.vrel this
    · rw [List.getD_eq_getElem?_getD, List.getElem?_eq_none (by omega)]
      exact .junk
/-- A state by its leaves. -/
theorem Rel.look {fl : Nat} {st : St} {act : Act} (h : Rel P fl st Γ w act) {p : SPat} {ls : List D} (hl : p.look st = some ls) : Rel P fl (p.inst ls) Γ w act ∧ (p.inst ls).obs.length = st.obs.length := by
  unfold SPat.look at hl
  split at hl
  · rename_i x y h1 h2
    cases hl
    obtain ⟨g1, g2⟩ := instL_less (P := P) (w := w) (Γ := Γ) p.ts h1 [] y
    obtain ⟨g3, g4⟩ := oinstL_less (P := P) (w := w) (Γ := Γ) p.os h2 x
    have hx := lookL_len p.ts h1
    have e1 : (p.inst (x ++ y)).tmps = Pat.instL ([] ++ (x ++ y)) p.ts ([] : List D).length := rfl
    have e2 : (p.inst (x ++ y)).obs = OPat.instL (x ++ y) p.os x.length := by rw [hx]; rfl
    exact ⟨h.less (by rw [e1]; exact g1) (by rw [e1]; exact g2) (by rw [e2]; exact g3) (by rw [e2]; exact g4), by rw [e2]; exact g3⟩
  · cases hl

/-! ### Things that nobody names -/
def Env.drop (Γ : Env) (o : Nat) : Env := { Γ with β := fun q => if q = o then none else Γ.β q }
theorem Env.drop_ne (Γ : Env) {o q : Nat} (h : q ≠ o) : (Γ.drop o).β q = Γ.β q := by simp [Env.drop, h]
theorem Env.drop_at (Γ : Env) (o : Nat) : (Γ.drop o).β o = none := by simp [Env.drop]
theorem Rel.dropLast {fl : Nat} {ts : List A} {obs : List Ob} {act : Act} (h : Rel P fl ⟨ts, obs⟩ Γ w act) (hpos : 0 < obs.length) (h1 : A.namesL (obs.length - 1) ts = false) (h2 : obs.dropLast.any (Ob.names (obs.length - 1)) = false) {base : Nat} (hb : base ≤ obs.length - 1) :
    Rel P fl ⟨ts, obs.dropLast⟩ (Γ.drop (obs.length - 1)) w act ∧ Step base Γ (Γ.drop (obs.length - 1)) w w := by
  have hsub : ∀ {q : Nat} {p : Place}, (Γ.drop (obs.length - 1)).β q = some p → q ≠ obs.length - 1 ∧ Γ.β q = some p := fun {q p} hq => by
    by_cases e : q = obs.length - 1
    · rw [e, Env.drop_at] at hq; cases hq
    · rw [Env.drop_ne _ e] at hq; exact ⟨e, hq⟩
  have hget : ∀ {q : Nat} {ob : Ob}, q ≠ obs.length - 1 → obs[q]? = some ob → obs.dropLast[q]? = some ob := fun {q ob} hq hob => by
    have := (List.getElem?_eq_some_iff.1 hob).1
    rw [List.getElem?_dropLast, if_pos (by omega)]; exact hob
  have hget' : ∀ {q : Nat} {ob : Ob}, obs.dropLast[q]? = some ob → obs[q]? = some ob := fun {q ob} hob => by
    have := (List.getElem?_eq_some_iff.1 hob).1
    rw [List.getElem?_dropLast] at hob
    split at hob
    · exact hob
    · cases hob
  have hext : ∀ {S : Nat → Prop}, (∀ q, S q → q ≠ obs.length - 1) → Ext S w w Γ (Γ.drop (obs.length - 1)) := fun hS => ⟨fun _ h => h, fun _ _ => rfl, fun q p hq hp => by rw [Env.drop_ne _ (hS q hq)]; exact hp⟩
  refine ⟨⟨⟨fun q p hq => ?_, fun q q' p p' b hq hq' => h.mem.inj q q' p p' b (hsub hq).2 (hsub hq').2, h.mem.fzlt⟩, fun q p b ob hfl hq hb hob hrw => h.free q p b ob hfl (hsub hq).2 hb (hget' hob) hrw, fun t => ?_, h.size, h.ndef⟩, ?_⟩
  · obtain ⟨hne, hq'⟩ := hsub hq
    obtain ⟨ob, g1, g2, g3, g4⟩ := h.mem.ob q p hq'
    have hob := hget hne g1
    refine ⟨ob, hob, g2, g3, fun hc => (g4 hc).same (fun _ _ => rfl) (hext fun x hx e => ?_)⟩
    subst e
    have : obs.dropLast.any (Ob.names (obs.length - 1)) = true := List.any_eq_true.2 ⟨ob, List.mem_of_getElem? hob, hx⟩
    rw [h2] at this; cases this
  · refine (h.tmps t).ext (S := fun q => (ts.getD t .junk).names q = true) (fun _ h => h) (hext fun x hx e => ?_)
    subst e
    by_cases hlt : t < ts.length
    · rw [List.getD_eq_getElem?_getD, List.getElem?_eq_getElem hlt] at hx
      rw [names_getElem (List.getElem?_eq_getElem hlt) hx] at h1; cases h1
    · rw [List.getD_eq_getElem?_getD, List.getElem?_eq_none (by omega)] at hx
      simp [A.names] at hx
  · exact { Step.refl base Γ w with fz := fun _ h => h, fznew := fun b hb => .inl hb, keep := fun q p hq hp => by rw [Env.drop_ne _ (by omega)]; exact hp, new := fun q p b hq hb => .inr ⟨q, p, (hsub hq).2, hb⟩ }
theorem Rel.dropObs {fl base : Nat} {act : Act} : ∀ (n : Nat) {ts : List A} {obs : List Ob} {Γ : Env}, Rel P fl ⟨ts, obs⟩ Γ w act → base ≤ obs.length - n → base ≤ obs.length →
    ∃ Γ', Rel P fl ⟨ts, dropObs ts n obs⟩ Γ' w act ∧ Step base Γ Γ' w w ∧ base ≤ (Ev.dropObs ts n obs).length
  | 0, ts, obs, Γ, h, _, hb => ⟨Γ, h, Step.refl _ _ _, hb⟩
  | n + 1, ts, obs, Γ, h, hb, hb' => by
    unfold Ev.dropObs
    split
    · rename_i ob hob
      have hpos : 0 < obs.length := by
        rcases Nat.eq_zero_or_pos obs.length with h0 | h0
        · rw [List.eq_nil_of_length_eq_zero h0] at hob; cases hob
        · exact h0
      split
      · exact ⟨Γ, h, Step.refl _ _ _, hb'⟩
      · rename_i hn
        simp only [Bool.or_eq_true, not_or, Bool.not_eq_true] at hn
        by_cases hle : base ≤ obs.length - 1
        · obtain ⟨g1, g2⟩ := h.dropLast hpos hn.1 hn.2 hle
          obtain ⟨Γ', g3, g4, g5⟩ := Rel.dropObs (base := base) n g1 (by simp; omega) (by simpa using hle)
          exact ⟨Γ', g3, g2.trans g4, g5⟩
        · omega
    · exact ⟨Γ, h, Step.refl _ _ _, hb'⟩

theorem mask_len : ∀ (r l : List A), (mask r l).length = l.length
  | [], l => by cases l <;> rfl
  | a :: r, [] => by cases a <;> rfl
  | a :: r, b :: l => by cases a <;> simp [mask, mask_len r l]
theorem mask_get : ∀ (r l : List A) {i : Nat} {a' : A}, (mask r l)[i]? = some a' → ∃ a, l[i]? = some a ∧ (a' = a ∨ a' = .junk)
  | [], l, i, a', h => by
    have : mask [] l = l := by cases l <;> rfl
    rw [this] at h; exact ⟨a', h, .inl rfl⟩
  | a :: r, [], i, a', h => by
    have : mask (a :: r) [] = [] := by cases a <;> rfl
    rw [this] at h; simp at h
  | a :: r, b :: l, i, a', h => by
    have : mask (a :: r) (b :: l) = .junk :: mask r l ∨ mask (a :: r) (b :: l) = b :: mask r l := by cases a <;> simp [mask]
    rcases this with e | e <;> rw [e] at h
    · cases i with
      | zero => simp at h; exact ⟨b, rfl, .inr h.symm⟩
      | succ i => obtain ⟨x, hx, hh⟩ := mask_get r l (i := i) (by simpa using h); exact ⟨x, by simpa using hx, hh⟩
    · cases i with
      | zero => simp at h; exact ⟨b, rfl, .inl h.symm⟩
      | succ i => obtain ⟨x, hx, hh⟩ := mask_get r l (i := i) (by simpa using h); exact ⟨x, by simpa using hx, hh⟩
theorem Rel.clean {fl base : Nat} {st0 st : St} {act : Act} (h : Rel P fl st Γ w act) (hb0 : base ≤ st0.obs.length) (hb : base ≤ st.obs.length) :
    ∃ Γ', Rel P fl (clean st0 st) Γ' w act ∧ Step base Γ Γ' w w ∧ base ≤ (Ev.clean st0 st).obs.length := by
  unfold Ev.clean
  simp only
  refine Rel.dropObs _ (h.less (st' := ⟨mask st0.tmps st.tmps, st.obs⟩) (mask_len _ _) (fun i a' ha => ?_) rfl fun i a ha => ⟨a, ha, .refl a⟩) (by omega) hb
  obtain ⟨a, h1, h2 | h2⟩ := mask_get _ _ ha
  · exact ⟨a, h1, by rw [h2]; exact .refl _⟩
  · exact ⟨a, h1, by rw [h2]; exact .toJunk _⟩
theorem keepT_len (ks : List Nat) : ∀ (l : List A) (i : Nat), (keepT ks i l).length = l.length
  | [], _ => rfl
  | a :: l, i => by simp [keepT, keepT_len ks l]
theorem keepT_get (ks : List Nat) : ∀ (l : List A) (k : Nat) {i : Nat} {a' : A}, (keepT ks k l)[i]? = some a' → ∃ a, l[i]? = some a ∧ (a' = a ∨ a' = .junk)
  | [], _, i, a', h => by simp [keepT] at h
  | b :: l, k, i, a', h => by
    simp only [keepT] at h
    cases i with
    | zero =>
      simp at h
      refine ⟨b, rfl, ?_⟩
      split at h
      · exact .inl h.symm
      · exact .inr h.symm
    | succ i => obtain ⟨x, hx, hh⟩ := keepT_get ks l (k + 1) (i := i) (by simpa using h); exact ⟨x, by simpa using hx, hh⟩
theorem keepO_len (ks : List Nat) : ∀ (l : List Ob) (i : Nat), (keepO ks i l).length = l.length
  | [], _ => rfl
  | a :: l, i => by simp [keepO, keepO_len ks l]
theorem keepO_get (ks : List Nat) : ∀ (l : List Ob) (k : Nat) {i : Nat} {a : Ob}, l[i]? = some a → ∃ a', (keepO ks k l)[i]? = some a' ∧ (a' = a ∨ a' = .dead)
  | [], _, i, a, h => by simp at h
  | b :: l, k, i, a, h => by
    cases i with
    | zero =>
      simp at h; subst h
      simp only [keepO, List.getElem?_cons_zero]
      split
      · exact ⟨_, rfl, .inl rfl⟩
      · exact ⟨_, rfl, .inr rfl⟩
    | succ i => obtain ⟨x, hx, hh⟩ := keepO_get ks l (k + 1) (i := i) (by simpa using h); exact ⟨x, by simpa [keepO] using hx, hh⟩
theorem Rel.keep {fl base n : Nat} {st : St} {act : Act} (h : Rel P fl st Γ w act) (k : Keep) (hn : base ≤ n) (hb : base ≤ st.obs.length) :
    ∃ Γ', Rel P fl (k.run n st) Γ' w act ∧ Step base Γ Γ' w w ∧ base ≤ (k.run n st).obs.length := by
  unfold Keep.run
  simp only
  have hlen := keepO_len k.os st.obs 0
  refine Rel.dropObs _ (h.less (st' := ⟨keepT k.ts 0 st.tmps, keepO k.os 0 st.obs⟩) (keepT_len _ _ _) (fun i a' ha => ?_) hlen fun i a ha => ?_) (by omega) (by omega)
  · obtain ⟨a, h1, h2 | h2⟩ := keepT_get _ _ _ ha
    · exact ⟨a, h1, by rw [h2]; exact .refl _⟩
    · exact ⟨a, h1, by rw [h2]; exact .toJunk _⟩
  · obtain ⟨a', h1, h2 | h2⟩ := keepO_get k.os st.obs 0 ha
    · exact ⟨a', h1, by rw [h2]; exact .refl _⟩
    · exact ⟨a', h1, by rw [h2]; exact .toDead _⟩

end
end Go.Ev

namespace Go.Ev
open Go

def exitOf : Ex → Exit
  | .normal => .normal
  | .exit id => .exit id
  | .goto l => .goto l
  | .ret => .ret

section
variable {P : Program} {R : Type} {r : R}

/-- What comes behind. -/
def Post (P : Program) (c : Ctx) (Γ : Env) (w : World) (K : Ex → St → Option R) (r : R) (Q : Exit → Act → World → Prop) : Prop :=
  ∀ e st' Γ' w' act', K e st' = some r → Rel P c.fl st' Γ' w' act' → c.base ≤ st'.obs.length → Step c.base Γ Γ' w w' → Q (exitOf e) act' w'
theorem Post.step {c : Ctx} {Γ Γ' : Env} {w w' : World} {K : Ex → St → Option R} {Q : Exit → Act → World → Prop} (h : Post P c Γ w K r Q) (hs : Step c.base Γ Γ' w w') : Post P c Γ' w' K r Q :=
  fun e st' Γ2 w2 act2 hK hr hb hs2 => h e st' Γ2 w2 act2 hK hr hb (hs.trans hs2)

/-- Does a handler tell what a loop does, in so many rounds? -/
def OkAt (P : Program) (c : Ctx) (a : Code) (n : Nat) (h : Hnd) : Prop :=
  ∀ (R : Type) (r : R) (ls : List D) (st : St) (K : Ex → St → Option R), h.look st = some ls → h.run ls K = some r → ∀ (Γ : Env) (w : World) (act : Act) (Q : Exit → Act → World → Prop), Rel P c.fl st Γ w act → c.base ≤ st.obs.length → c.fl ≤ c.base →
    Post P c Γ w K r Q → Code.rounds P a Q n act w
def HndOk (P : Program) (c : Ctx) (a : Code) (h : Hnd) : Prop := ∃ n, OkAt P c a n h
theorem rounds_mono {a : Code} {Q : Exit → Act → World → Prop} : ∀ {n m : Nat} {act : Act} {w : World}, n ≤ m → Code.rounds P a Q n act w → Code.rounds P a Q m act w
  | 0, _, _, _, _, h => h.elim
  | n + 1, 0, _, _, hm, _ => by omega
  | n + 1, m + 1, act, w, hm, h => by
    rw [rounds_succ] at h ⊢
    intro b k cs
    obtain ⟨e, a', w', hq, harr⟩ := h b k cs
    refine ⟨e, a', w', ?_, harr⟩
    cases e with
    | normal => exact rounds_mono (Nat.le_of_succ_le_succ hm) hq
    | _ => exact hq
theorem okAt_all {c : Ctx} {a : Code} {C : (Nat × Nat × Nat) × Hnd → Prop} : ∀ {l : List ((Nat × Nat × Nat) × Hnd)}, (∀ x ∈ l, C x → HndOk P c a x.2) → ∃ n, ∀ x ∈ l, C x → OkAt P c a n x.2
  | [], _ => ⟨0, fun x hx => by cases hx⟩
  | x :: l, h => by
    obtain ⟨n, hn⟩ := okAt_all (l := l) fun y hy => h y (List.mem_cons_of_mem _ hy)
    by_cases hc : C x
    · obtain ⟨m, hm⟩ := h x (by simp) hc
      refine ⟨max n m, fun y hy hcy => ?_⟩
      intro R r ls st K h1 h2 Γ w act Q h3 h4 h5 h6
      rcases List.mem_cons.1 hy with rfl | hy
      · exact rounds_mono (Nat.le_max_right _ _) (hm R r ls st K h1 h2 Γ w act Q h3 h4 h5 h6)
      · exact rounds_mono (Nat.le_max_left _ _) (hn y hy hcy R r ls st K h1 h2 Γ w act Q h3 h4 h5 h6)
    · refine ⟨n, fun y hy hcy => ?_⟩
      rcases List.mem_cons.1 hy with rfl | hy
      · exact absurd hcy hc
      · exact hn y hy hcy
def LoopsOk (P : Program) (cf : Cfg) : Prop :=
  ∀ key h, (key, h) ∈ cf.L → ∀ (c : Ctx) (a : Code), a ∈ loopsOf (bodyOf P c.fn) → (c.cx, c.fn, firstReg a) = key → h.base = c.base → h.fl = c.fl → h.k = c.k → HndOk P c a h
theorem tryHnd_some {key : Nat × Nat × Nat} {b f d : Nat} {st : St} {K : Ex → St → Option R} : ∀ {l : List ((Nat × Nat × Nat) × Hnd)}, tryHnd l key b f d st K = some r →
    ∃ h ls, (key, h) ∈ l ∧ h.base = b ∧ h.fl = f ∧ h.k = d ∧ h.look st = some ls ∧ h.run ls K = some r
  | [], h => by simp [tryHnd] at h
  | (k, hd) :: l, h => by
    have more : tryHnd l key b f d st K = some r → ∃ h ls, (key, h) ∈ (k, hd) :: l ∧ h.base = b ∧ h.fl = f ∧ h.k = d ∧ h.look st = some ls ∧ h.run ls K = some r := fun h => by
      obtain ⟨h', ls, h1, h2⟩ := tryHnd_some h
      exact ⟨h', ls, List.mem_cons_of_mem _ h1, h2⟩
    simp only [tryHnd] at h
    split at h
    · rename_i hc
      simp only [Bool.and_eq_true, beq_iff_eq] at hc
      obtain ⟨⟨⟨rfl, h2⟩, h3⟩, h4⟩ := hc
      split at h
      · rename_i ls hl
        exact ⟨hd, ls, by simp, h2, h3, h4, hl, h⟩
      · exact more h
    · exact more h

theorem exit_then {K : Act → World → Prop} {Q : Exit → Act → World → Prop} {e : Ex} {a : Act} {w : World} (hn : e = .normal → K a w) (hq : e ≠ .normal → Q (exitOf e) a w) : Exit.then K Q (exitOf e) a w := by
  cases e with
  | normal => exact hn rfl
  | exit id => exact hq (by simp)
  | goto l => exact hq (by simp)
  | ret => exact hq (by simp)

/-- A loop, round by round. -/
theorem unrollE_sound {c : Ctx} {a : Code} {body : St → (Ex → St → Option R) → Option R}
    (hbody : ∀ (st : St) (K : Ex → St → Option R), body st K = some r → ∀ (Γ : Env) (w : World) (act : Act) (Q : Exit → Act → World → Prop), Rel P c.fl st Γ w act → c.base ≤ st.obs.length → Post P c Γ w K r Q → a.wp P Q act w) {K : Ex → St → Option R} :
    ∀ (n : Nat) (st : St), unrollE body n st K = some r → ∀ (Γ : Env) (w : World) (act : Act) (Q : Exit → Act → World → Prop), Rel P c.fl st Γ w act → c.base ≤ st.obs.length → Post P c Γ w K r Q → Code.rounds P a Q n act w
  | 0, st, h, _, _, _, _, _, _, _ => by simp [unrollE] at h
  | n + 1, st, h, Γ, w, act, Q, hr, hb, hQ => by
    simp only [unrollE] at h
    rw [rounds_succ]
    refine hbody st _ h Γ w act _ hr hb fun e st' Γ' w' act' hK hr' hb' hs => ?_
    obtain ⟨Γ2, hr2, hs2, hb2⟩ := hr'.clean (st0 := st) hb hb'
    refine exit_then (fun he => ?_) (fun he => ?_)
    · subst he
      exact unrollE_sound hbody n _ hK Γ2 w' act' Q hr2 hb2 (hQ.step (hs.trans hs2))
    · cases e with
      | normal => exact absurd rfl he
      | exit id => exact hQ _ _ Γ2 w' act' hK hr2 hb2 (hs.trans hs2)
      | goto l => exact hQ _ _ Γ2 w' act' hK hr2 hb2 (hs.trans hs2)
      | ret => exact hQ _ _ Γ2 w' act' hK hr2 hb2 (hs.trans hs2)

/-- CODE. -/
theorem codeE_sound (T : TabOk P) (F : FnOk P) (hmix : P.follows .mixedOrders = true) {cf : Cfg} (hS : ∀ s ∈ cf.S, Contract P s) (hL : LoopsOk P cf) {call : CallE R} (hcall : CallOk P call) {c : Ctx} (hfb : c.fl ≤ c.base) :
    ∀ (code : Code), (∀ a ∈ loopsOf code, a ∈ loopsOf (bodyOf P c.fn)) → ∀ (st : St) (K : Ex → St → Option R), codeE P cf call c code st K = some r → ∀ (Γ : Env) (w : World) (act : Act) (Q : Exit → Act → World → Prop), Rel P c.fl st Γ w act → c.base ≤ st.obs.length →
      Post P c Γ w K r Q → code.wp P Q act w := by
  intro code
  induction code with
  | skip => exact fun _ st K h Γ w act Q hr hb hQ => wp_skip (hQ .normal st Γ w act h hr hb (Step.refl _ _ _))
  | label l => exact fun _ st K h Γ w act Q hr hb hQ => wp_label (hQ .normal st Γ w act h hr hb (Step.refl _ _ _))
  | exit id => exact fun _ st K h Γ w act Q hr hb hQ => wp_exit (hQ (.exit id) st Γ w act h hr hb (Step.refl _ _ _))
  | ret => exact fun _ st K h Γ w act Q hr hb hQ => wp_ret (hQ .ret st Γ w act h hr hb (Step.refl _ _ _))
  | seq a b iha ihb =>
    intro hsub st K h Γ w act Q hr hb hQ
    simp only [codeE] at h
    refine wp_seq (iha (fun x hx => hsub x (by simp [loopsOf, hx])) st _ h Γ w act _ hr hb fun e st' Γ' w' act' hK hr' hb' hs => ?_)
    refine exit_then (fun he => ?_) (fun he => ?_)
    · subst he
      exact ihb (fun x hx => hsub x (by simp [loopsOf, hx])) st' K hK Γ' w' act' Q hr' hb' (hQ.step hs)
    · cases e with
      | normal => exact absurd rfl he
      | exit id => exact hQ _ _ Γ' w' act' hK hr' hb' hs
      | goto l => exact hQ _ _ Γ' w' act' hK hr' hb' hs
      | ret => exact hQ _ _ Γ' w' act' hK hr' hb' hs
  | region id ops draw =>
    intro hsub st K h Γ w act Q hr hb hQ
    simp only [codeE] at h
    exact regionE_sound T F hmix hS hcall h hfb hr hb fun st' Γ' w' act' hK hr' hb' hs => hQ .normal st' Γ' w' act' hK hr' hb' hs
  | cond x a b iha ihb =>
    intro hsub st K h Γ w act Q hr hb hQ
    simp only [codeE] at h
    split at h
    · rename_i t ht
      have hv := hr.ev x
      rw [ht] at hv
      rcases cnd_some h with ⟨rfl, h⟩ | ⟨rfl, h⟩
      · exact wp_cond_true hv.bool (iha (fun y hy => hsub y (by simp [loopsOf, hy])) st K h Γ w act Q hr hb hQ)
      · exact wp_cond_false hv.bool (ihb (fun y hy => hsub y (by simp [loopsOf, hy])) st K h Γ w act Q hr hb hQ)
    · cases h
  | block id a ih =>
    intro hsub st K h Γ w act Q hr hb hQ
    simp only [codeE] at h
    refine wp_block (ih (fun y hy => hsub y (by simpa [loopsOf] using hy)) st _ h Γ w act _ hr hb fun e st' Γ' w' act' hK hr' hb' hs => ?_)
    cases e with
    | normal => exact hQ _ _ Γ' w' act' hK hr' hb' hs
    | exit i =>
      simp only at hK
      show (if i = id then Q .normal act' w' else Q (.exit i) act' w')
      by_cases hi : i = id
      · rw [if_pos (by simpa using hi)] at hK
        rw [if_pos hi]
        exact hQ .normal _ Γ' w' act' hK hr' hb' hs
      · rw [if_neg (by simpa using hi)] at hK
        rw [if_neg hi]
        exact hQ (.exit i) _ Γ' w' act' hK hr' hb' hs
    | goto l => exact hQ _ _ Γ' w' act' hK hr' hb' hs
    | ret => exact hQ _ _ Γ' w' act' hK hr' hb' hs
  | loop a ih =>
    intro hsub st K h Γ w act Q hr hb hQ
    simp only [codeE] at h
    split at h
    · obtain ⟨n, hn⟩ := okAt_all (P := P) (c := c) (a := a) (C := fun x => x.1 = (c.cx, c.fn, firstReg a) ∧ x.2.base = c.base ∧ x.2.fl = c.fl ∧ x.2.k = c.k) (l := cf.L) fun x hx hc => hL x.1 x.2 hx c a (hsub a (by simp [loopsOf])) hc.1.symm hc.2.1 hc.2.2.1 hc.2.2.2
      split at h
      · obtain ⟨hd, ls, h1, h2, h3, h4, h5, h6⟩ := tryHnd_some h
        exact wp_loop_rounds n (hn _ h1 ⟨rfl, h2, h3, h4⟩ R r ls st K h5 h6 Γ w act Q hr hb hfb hQ)
      · refine wp_loop_rounds (n + 1) ?_
        rw [rounds_succ]
        refine ih (fun y hy => hsub y (by simp [loopsOf, hy])) st _ h Γ w act _ hr hb fun e st' Γ' w' act' hK hr' hb' hs => ?_
        obtain ⟨Γ2, hr2, hs2, hb2⟩ := hr'.clean (st0 := st) hb hb'
        refine exit_then (fun he => ?_) (fun he => ?_)
        · subst he
          obtain ⟨hd, ls, h1, h2, h3, h4, h5, h6⟩ := tryHnd_some hK
          exact hn _ h1 ⟨rfl, h2, h3, h4⟩ R r ls _ K h5 h6 Γ2 w' act' Q hr2 hb2 hfb (hQ.step (hs.trans hs2))
        · cases e with
          | normal => exact absurd rfl he
          | exit id => exact hQ _ _ Γ2 w' act' hK hr2 hb2 (hs.trans hs2)
          | goto l => exact hQ _ _ Γ2 w' act' hK hr2 hb2 (hs.trans hs2)
          | ret => exact hQ _ _ Γ2 w' act' hK hr2 hb2 (hs.trans hs2)
    · exact wp_loop_rounds _ (unrollE_sound (fun st K h Γ w act Q hr hb hQ => ih (fun y hy => hsub y (by simp [loopsOf, hy])) st K h Γ w act Q hr hb hQ) _ st h Γ w act Q hr hb hQ)
  | scope a ih =>
    intro hsub st K h Γ w act Q hr hb hQ
    simp only [codeE] at h
    refine wp_scope_straight (ih (fun y hy => hsub y (by simpa [loopsOf] using hy)) st _ h Γ w act _ hr hb fun e st' Γ' w' act' hK hr' hb' hs => ?_)
    cases e with
    | normal => exact hQ _ _ Γ' w' act' hK hr' hb' hs
    | exit i => exact hQ _ _ Γ' w' act' hK hr' hb' hs
    | goto l => simp at hK
    | ret => exact hQ _ _ Γ' w' act' hK hr' hb' hs
  | _ => intro hsub st K h; simp [codeE] at h

/-! ### Results -/
theorem cell_load (T : TabOk P) {fl : Nat} {st : St} {Γ : Env} {w : World} {act : Act} (hr : Rel P fl st Γ w act) {t : TypeId} {o : Nat} {p : List Nat} {v : Value} (hv : VRel P w Γ (.ref o p) v) {K : A → Option R} (h : loadE P none st.obs t (.ref o p) K = some r) :
    ∃ x u b off, K x = some r ∧ v = .pointer (some ⟨b, off, none⟩) ∧ (loadVar t ⟨b, off, none⟩).run P w = .ok u w ∧ VRel P w Γ x u := by
  simp only [loadE] at h
  split at h
  · rename_i t0 a hob
    split at h
    · rename_i y hy
      split at h
      · rename_i hc
        simp only [Bool.and_eq_true] at hc
        have hx1 := hv.one (by simp) rfl (by simp)
        cases hx1 with
        | ref hp hoff =>
          rename_i b t' u off
          obtain ⟨hs, hbk, hct⟩ := hr.mem.at (Wk.refl _) hp hob
          have hs : t0 = t' := hs
          subst hs
          obtain ⟨hfit, hct⟩ := hct trivial
          obtain ⟨cs, hcs, hsz⟩ := hbk
          have hrr := hct cs _ _ hcs
          obtain ⟨g1, g2⟩ := getA_rel T hrr hfit (by simpa using hsz) hy hoff
          obtain ⟨d, hu, hk, hl, hj⟩ := fits_kind T hc.1 g1
          have hcells : CellsAt w b off ((cs.toList.drop off).take (P.cellsOf u)) := cellsIn_at hcs off (P.cellsOf u)
          obtain ⟨v', h1, h2⟩ := run_load T hcells g1 hu hk hl hj
          refine ⟨y, v', b, off, h, rfl, ?_, h2⟩
          simpa [Instr.loadAt, Instr.sureAddr] using h1
      · cases h
    · cases h
  · cases h

def resStep (tmps : Array Value) (x : ResultVar) : Sem Value :=
  match x with
  | .tmp t => pure (tmps.getD t undef)
  | .cell a t => do loadVar t (← asAddr (tmps.getD a undef))
theorem results_eq (fn : Func) (tmps : Array Value) : results fn tmps = (do
    let vs ← fn.results.mapM (resStep tmps)
    pure (if h : vs.size = 1 then vs[0] else .tuple vs)) := rfl
theorem resE_sound (T : TabOk P) {fl : Nat} {st : St} {Γ : Env} {w : World} {act : Act} (hr : Rel P fl st Γ w act) : ∀ (l : List ResultVar) (acc : List A) (K : List A → Option R), resE P st l acc K = some r →
    ∃ as vs, K (acc.reverse ++ as) = some r ∧ as.length = l.length ∧ vs.length = l.length ∧ (∀ (i : Nat) a v, as[i]? = some a → vs[i]? = some v → VRel P w Γ a v) ∧
      (l.mapM (resStep act.tmps)).run P w = .ok vs w
  | [], acc, K, h => ⟨[], [], by simpa [resE] using h, rfl, rfl, fun i a v h => by simp at h, by simp [Sem.run_pure]⟩
  | .tmp t :: l, acc, K, h => by
    simp only [resE] at h
    obtain ⟨as, vs, h1, h2, h3, h4, h5⟩ := resE_sound T hr l _ K h
    refine ⟨st.tmps.getD t .junk :: as, act.tmps.getD t undef :: vs, by simpa using h1, by simp [h2], by simp [h3], fun i a v ha hv => ?_, ?_⟩
    · cases i with
      | zero => simp at ha hv; subst ha; subst hv; simpa using hr.tmps t
      | succ i => exact h4 i a v (by simpa using ha) (by simpa using hv)
    · have h0 : (resStep act.tmps (.tmp t)).run P w = .ok (act.tmps.getD t undef) w := by simp only [resStep, Sem.run_pure]
      simp only [List.mapM_cons, Sem.run_bind, h0, Result.andThen_ok, h5, Sem.run_pure]
  | .cell a t :: l, acc, K, h => by
    simp only [resE] at h
    split at h
    · rename_i o p hop
      have hv := hr.tmps a
      rw [hop] at hv
      obtain ⟨x, u, b, off, g1, g2, g3, g4⟩ := cell_load T hr hv h
      obtain ⟨as, vs, h1, h2, h3, h4, h5⟩ := resE_sound T hr l _ K g1
      refine ⟨x :: as, u :: vs, by simpa using h1, by simp [h2], by simp [h3], fun i a v ha hv => ?_, ?_⟩
      · cases i with
        | zero => simp at ha hv; subst ha; subst hv; exact g4
        | succ i => exact h4 i a v (by simpa using ha) (by simpa using hv)
      · have hA : (asAddr (act.tmps.getD a undef)).run P w = .ok ⟨b, off, none⟩ w := by rw [g2]; rfl
        have h0 : (resStep act.tmps (.cell a t)).run P w = .ok u w := by simp only [resStep, Sem.run_bind, hA, Result.andThen_ok, g3]
        simp only [List.mapM_cons, Sem.run_bind, h0, Result.andThen_ok, h5, Sem.run_pure]
    · cases h

/-! ### Calls -/
theorem callE_sound (T : TabOk P) (F : FnOk P) (hmix : P.follows .mixedOrders = true) {cf : Cfg} (hS : ∀ s ∈ cf.S, Contract P s) (hL : LoopsOk P cf) : ∀ (k : Nat), CallOk P (callE (R := R) P cf k)
  | 0 => fun c f args obs K r h => by simp [callE] at h
  | k + 1 => fun c f args obs K r h => by
    simp only [callE] at h
    split at h
    · cases h
    · rename_i fn hfn
      split at h
      · cases h
      · rename_i body hbody
        refine ⟨⟨fn, hfn, by rw [hbody]; rfl⟩, fun Γ w vals hm hf hfl hsz hv N hN => ?_⟩
        refine calls_of_wp hfn hbody ?_
        have hbody' : bodyOf P f = body := by unfold bodyOf; rw [hfn]; simp only [hbody]
        refine codeE_sound T F hmix hS hL (callE_sound T F hmix hS hL k) (c := { c with fn := f, base := obs.length, k := k }) hfl body (fun a ha => by show a ∈ loopsOf (bodyOf P f); rw [hbody']; exact ha) _ _ h Γ w _ _ ⟨hm, hf, fun t => ?_, ?_, rfl⟩ (Nat.le_refl _) ?_
        · show VRel P w Γ ((args ++ List.replicate (fn.ntmps - args.length) A.junk).getD t A.junk) ((vals ++ Array.replicate (fn.ntmps - vals.size) undef).getD t undef)
          by_cases ht : t < args.length
          · have e1 : (args ++ List.replicate (fn.ntmps - args.length) A.junk).getD t .junk = args[t] := by
              rw [List.getD_eq_getElem?_getD, List.getElem?_append_left ht, List.getElem?_eq_getElem ht]; rfl
            have ht' : t < vals.size := by omega
            have e2 : (vals ++ Array.replicate (fn.ntmps - vals.size) undef).getD t undef = vals[t] := by
              rw [Array.getD_eq_getD_getElem?, Array.getElem?_append_left ht', Array.getElem?_eq_getElem ht']; rfl
            rw [e1, e2]
            exact hv t _ _ (List.getElem?_eq_getElem ht) (by simp [ht'])
          · have e1 : (args ++ List.replicate (fn.ntmps - args.length) A.junk).getD t .junk = .junk := by
              rw [List.getD_eq_getElem?_getD, List.getElem?_append_right (by omega), List.getElem?_replicate]
              split <;> rfl
            rw [e1]; exact .junk
        · simp [hsz]
        · intro e st' Γ' w' act' hK hr' hb' hs
          have fin : ∀ (as : List A) (vs : List Value), (match as with | [a] => K a st'.obs | as => if as.all A.notTup then K (.tup as) st'.obs else none) = some r → as.length = fn.results.toList.length → vs.length = fn.results.toList.length →
              (∀ (i : Nat) a v, as[i]? = some a → vs[i]? = some v → VRel P w' Γ' a v) →
              (fn.results.toList.mapM (resStep act'.tmps)).run P w' = .ok vs w' →
              bodyPost P fn (fun e w' => ∃ v, e = .returned v ∧ N v w') .normal act' w' := fun as vs h1 h2 h3 h4 h5 => by
            have hres : (results fn act'.tmps).run P w' = .ok (if h : vs.toArray.size = 1 then vs.toArray[0] else .tuple vs.toArray) w' := by
              rw [results_eq, Array.mapM_eq_mapM_toList]
              rw [Sem.run_bind, ← bind_pure_comp, Sem.run_bind, h5]
              simp only [Result.andThen_ok, Sem.run_pure]
            have hab : N (if h : vs.toArray.size = 1 then vs.toArray[0] else .tuple vs.toArray) w' := by
              have hgo : ∀ a, VRel P w' Γ' a (if h : vs.toArray.size = 1 then vs.toArray[0] else .tuple vs.toArray) → K a st'.obs = some r → N (if h : vs.toArray.size = 1 then vs.toArray[0] else .tuple vs.toArray) w' := fun a ha hK => hN a st'.obs Γ' w' _ hK ha hr'.mem hr'.free hs hb'
              have tupl : as.length ≠ 1 → (if as.all A.notTup then K (.tup as) st'.obs else none) = some r → N (if h : vs.toArray.size = 1 then vs.toArray[0] else .tuple vs.toArray) w' := fun hne hh => by
                split at hh
                · rename_i hall
                  refine hgo (.tup as) ?_ hh
                  rw [dif_neg (by simp; omega)]
                  refine ⟨vs.toArray, rfl, by simp; omega, fun i a x ha hx => (h4 i a x ha (by simpa using hx)).to1 fun us e => ?_⟩
                  have := List.all_eq_true.1 hall a (List.mem_of_getElem? ha)
                  rw [e] at this; cases this
                · cases hh
              match as, vs, h1, h2, h3, h4, tupl, hgo with
              | [a], [v], h1, _, _, h4, _, hgo => exact hgo a (h4 0 a v rfl rfl) h1
              | [], _, h1, _, _, _, tupl, _ => exact tupl (by simp) h1
              | _ :: _ :: _, _, h1, _, _, _, tupl, _ => exact tupl (by simp) h1
              | [a], [], _, h2, h3, _, _, _ => simp at h2 h3; omega
              | [a], _ :: _ :: _, _, h2, h3, _, _, _ => simp at h2 h3; omega
            exact ⟨hr'.ndef, _, hres, _, rfl, hab⟩
          have go : resE P st' fn.results.toList [] (fun as => match as with | [a] => K a st'.obs | as => if as.all A.notTup then K (.tup as) st'.obs else none) = some r → bodyPost P fn (fun e w' => ∃ v, e = .returned v ∧ N v w') .normal act' w' := fun hh => by
            obtain ⟨as, vs, h1, h2, h3, h4, h5⟩ := resE_sound T hr' _ _ _ hh
            exact fin as vs (by simpa using h1) h2 h3 h4 h5
          cases e with
          | normal => exact go hK
          | ret => exact go hK
          | exit id => simp at hK
          | goto l => simp at hK

end
end Go.Ev
