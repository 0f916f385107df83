/- The plain laws: edges, meets, joins: what they bind, as the program tells it and as the document does. The plain laws: what a plan binds, as the document tells it. -/
import Derived.Test.YtakjjijmcnhpoaaGreatPC
namespace Go.Ev.S
open Go Go.Ev
set_option linter.unusedVariables false
variable {N : Nat}

/-- Truths with some more that are true. -/
structure Mk (B l : List Bool) (S : Nat → Prop) : Prop where
  len : l.length = B.length
  is : ∀ i, i < B.length → (l.getD i false = true ↔ B.getD i false = true ∨ S i)
theorem Mk.refl (B : List Bool) : Mk B B (fun _ => False) := ⟨rfl, fun i _ => by simp⟩
theorem Mk.iff {B l : List Bool} {S S' : Nat → Prop} (h : Mk B l S) (e : ∀ i, i < B.length → (B.getD i false = true ∨ S i ↔ B.getD i false = true ∨ S' i)) : Mk B l S' := ⟨h.len, fun i hi => (h.is i hi).trans (e i hi)⟩
theorem getD_set {l : List Bool} {i j : Nat} {x : Bool} (hi : i < l.length) : (l.set j x).getD i false = if i = j then x else l.getD i false := by
  rw [List.getD_eq_getElem?_getD, List.getD_eq_getElem?_getD]
  by_cases e : i = j
  · subst e; rw [List.getElem?_set_self hi, if_pos rfl]; rfl
  · rw [List.getElem?_set_ne (Ne.symm e), if_neg e]
theorem Mk.set {B l : List Bool} {S : Nat → Prop} (h : Mk B l S) (j : Nat) : Mk B (l.set j true) (fun i => S i ∨ i = j) := by
  refine ⟨by rw [List.length_set, h.len], fun i hi => ?_⟩
  rw [getD_set (by rw [h.len]; exact hi)]
  by_cases e : i = j
  · rw [if_pos e]; exact ⟨fun _ => .inr (.inr e), fun _ => rfl⟩
  · rw [if_neg e, h.is i hi]
    exact ⟨fun h => h.imp id .inl, fun h => h.imp id fun h => h.resolve_right e⟩
theorem Mk.same {B l l' : List Bool} {S : Nat → Prop} (h : Mk B l S) (h' : Mk B l' S) : l = l' := by
  refine List.ext_getElem? fun i => ?_
  by_cases hi : i < B.length
  · have h1 := h.is i hi
    have h2 := h'.is i hi
    have e : l.getD i false = l'.getD i false := by
      cases a : l.getD i false <;> cases b : l'.getD i false
      · rfl
      · rw [a] at h1; rw [b] at h2
        have := h1.2 (h2.1 rfl); cases this
      · rw [a] at h1; rw [b] at h2
        have := h2.2 (h1.1 rfl); cases this
      · rfl
    have hl : i < l.length := by rw [h.len]; exact hi
    have hl' : i < l'.length := by rw [h'.len]; exact hi
    rw [List.getD_eq_getElem?_getD, List.getD_eq_getElem?_getD, List.getElem?_eq_getElem hl, List.getElem?_eq_getElem hl'] at e
    rw [List.getElem?_eq_getElem hl, List.getElem?_eq_getElem hl']
    exact congrArg some e
  · rw [List.getElem?_eq_none (by rw [h.len]; omega), List.getElem?_eq_none (by rw [h'.len]; omega)]

/-! ### Edges -/
noncomputable def eK (p : D) : Int := (at_ (p.f 3).es 0).n
noncomputable def eE (c p : D) : D := at_ (c.f 1).es (tn (eK p))
noncomputable def eS (c p : D) : Int := if (p.f 4).b = true then ((eE c p).f 3).n else ((eE c p).f 2).n
noncomputable def eD (c p : D) : Int := if (p.f 4).b = true then ((eE c p).f 2).n else ((eE c p).f 3).n
structure EOk (c p : D) (B : List Bool) : Prop where
  one : (p.f 3).es.length = 1
  lo : 0 ≤ eK p
  hi : eK p < (c.f 1).es.length
  free : B.getD (tn ((c.f 0).es.length + eK p)) false = false
  src : B.getD (tn (eS c p)) false = true
  mode : ((eE c p).f 4).n = 0 ↔ (p.f 0).n = 2

theorem first_val (p c : D) : ∃ v, (cnd (bno (ieq (ilen (len (D.es (D.f p 3)))) 1)) (some true) (cnd (inb 0 (len (D.es (D.f p 3)))) (cnd (ilt (D.n (at_ (D.es (D.f p 3)) 0)) 0) (some true) (cnd (inb 0 (len (D.es (D.f p 3)))) (some (ile (ilen (len (D.es (D.f c 1)))) (D.n (at_ (D.es (D.f p 3)) 0)))) none)) none)) = some v ∧ (v = false ↔ (p.f 3).es.length = 1 ∧ 0 ≤ eK p ∧ eK p < (c.f 1).es.length) := by
  unfold eK
  cases h : ieq (ilen (len (p.f 3).es)) 1 with
  | false =>
    have := ieq_not h
    unfold ilen len at this
    exact ⟨true, rfl, ⟨fun h => (by cases h), fun h => by omega⟩⟩
  | true =>
    have h := ieq_is h
    unfold ilen len at h
    rw [bno_t, cnd_f, inb_in (by unfold len; omega), cnd_t, cnd_t]
    cases h2 : ilt (D.n (at_ (p.f 3).es 0)) 0 with
    | true =>
      have := ilt_is h2
      exact ⟨true, rfl, ⟨fun h => (by cases h), fun h => by omega⟩⟩
    | false =>
      have h2 := ilt_not h2
      rw [cnd_f]
      refine ⟨_, rfl, ⟨fun h3 => ?_, fun h3 => ile_no (by unfold ilen len; omega)⟩⟩
      have := ile_not h3
      unfold ilen len at this
      omega
theorem beqb_iff (a b : Int) (x y : Int) : beqb (ieq a x) (ieq b y) = true ↔ (a = x ↔ b = y) := by
  by_cases h1 : a = x <;> by_cases h2 : b = y
  · rw [ieq_in h1, ieq_in h2]; exact ⟨fun _ => ⟨fun _ => h2, fun _ => h1⟩, fun _ => rfl⟩
  · rw [ieq_in h1, ieq_no h2]; exact ⟨fun h => (by cases h), fun h => absurd (h.1 h1) h2⟩
  · rw [ieq_no h1, ieq_in h2]; exact ⟨fun h => (by cases h), fun h => absurd (h.2 h2) h1⟩
  · rw [ieq_no h1, ieq_no h2]; exact ⟨fun _ => ⟨fun h => absurd h h1, fun h => absurd h h2⟩, fun _ => rfl⟩

/-- The ends of an edge lie among the nodes. -/
theorem ends_lt {c p : D} (P : Pat c) (h0 : 0 ≤ eK p) (h1 : eK p < (c.f 1).es.length) : 0 ≤ eS c p ∧ eS c p < (c.f 0).es.length ∧ 0 ≤ eD c p ∧ eD c p < (c.f 0).es.length := by
  obtain ⟨q1, q2, q3, q4⟩ := P.ends (eE c p) (at_mem (by unfold tn; omega))
  unfold eS eD
  split <;> omega
theorem ends_val (c p : D) : ends_ N (eE c p) (.bool (D.b (p.f 4))) = some (.st [.int (eS c p), .int (eD c p)]) := by
  unfold ends_ ends eS eD
  cases h : (p.f 4).b <;> rfl
theorem rEnds_val (c p : D) : rEnds_ N (eE c p) (.bool (D.b (p.f 4))) = some (.st [.int (eS c p), .int (eD c p)]) := by
  unfold rEnds_ rEnds eS eD
  cases h : (p.f 4).b <;> rfl

theorem three_val (c p : D) (b : List D) : ∀ (u w r : Bool), u = (trs b).getD (tn ((c.f 0).es.length + eK p)) false → w = (trs b).getD (tn (eS c p)) false → r = beqb (ieq ((eE c p).f 4).n 0) (ieq (p.f 0).n 2) → ∃ v, (cnd u (some true) (cnd (bno w) (some true) (some (bno r)))) = some v ∧
    (v = false ↔ (trs b).getD (tn ((c.f 0).es.length + eK p)) false = false ∧ (trs b).getD (tn (eS c p)) false = true ∧ (((eE c p).f 4).n = 0 ↔ (p.f 0).n = 2)) := by
  intro u w r hu hw hr
  have hb := beqb_iff ((eE c p).f 4).n (p.f 0).n 0 2
  rw [← hr] at hb
  rw [← hu, ← hw, ← hb]
  cases u <;> cases w <;> cases r <;> first | exact ⟨_, rfl, by simp [bno]⟩ | (refine ⟨_, rfl, ?_⟩; simp [bno])

theorem edge_val {c : D} (P : Pat c) (p : D) (z : Bool) (b : List D) (hb : b.length = (c.f 0).es.length + (c.f 1).es.length) :
    ∃ v l, edge_ N (ctx c) p (.sl z b) = some (.st [.bool v, .sl false l]) ∧ (v = true ↔ EOk c p (trs b)) ∧ (v = true → Mk (trs b) (trs l) (fun i => i = tn ((c.f 0).es.length + eK p) ∨ i = tn (eD c p))) := by
  have P' := P
  obtain ⟨p1, p2, p3, p4⟩ := P
  unfold edge_ edge
  rw [ctx0, ctx1]
  simp only [es_sl]
  obtain ⟨v, h1, h2⟩ := first_val p c
  rw [h1, obind_s]
  cases v with
  | true => exact ⟨false, _, rfl, ⟨fun h => (by cases h), fun h => by have := h2.2 ⟨h.one, h.lo, h.hi⟩; cases this⟩, fun h => by cases h⟩
  | false =>
    obtain ⟨g1, g2, g3⟩ := h2.1 rfl
    obtain ⟨x1, x2, y1, y2⟩ := ends_lt P' g2 g3
    rw [cnd_f, inb_in (by unfold len; omega), cnd_t, show (at_ (p.f 3).es 0).n = eK p from rfl, inb_in (by unfold len; omega), cnd_t]
    rw [show at_ (c.f 1).es (tn (eK p)) = eE c p from rfl, ends_val, obind_s]
    have ex : ((D.st [D.int (eS c p), D.int (eD c p)]).f 0).n = eS c p := rfl
    have ey : ((D.st [D.int (eS c p), D.int (eD c p)]).f 1).n = eD c p := rfl
    rw [ex, ey]
    simp only [len_c, ilen_c]
    rw [iadd_in (by omega), inb_in (i := eS c p) (by omega), cnd_t, inb_in (i := ((c.f 0).es.length : Int) + _) (by omega), cnd_t, cnd_t, cnd_t, inb_in (i := eD c p) (by omega), cnd_t]
    obtain ⟨v, h5, h6⟩ := three_val c p b _ _ _ (trs_at b _).symm (trs_at b _).symm rfl
    rw [h5, obind_s]
    cases v with
    | true => exact ⟨false, _, rfl, ⟨fun h => (by cases h), fun h => by have := h6.2 ⟨h.free, h.src, h.mode⟩; cases this⟩, fun h => by cases h⟩
    | false =>
      obtain ⟨u1, u2, u3⟩ := h6.1 rfl
      refine ⟨true, _, rfl, ⟨fun _ => ⟨g1, g2, g3, u1, u2, u3⟩, fun _ => rfl⟩, fun _ => ?_⟩
      rw [trs_put, trs_put]
      exact (((Mk.refl (trs b)).set _).set _).iff fun i hi => by simp

/-- The document's. -/
theorem one_val {c : D} (P : Pat c) (p : D) (z : Bool) (b : List D) (hb : b.length = (c.f 0).es.length + (c.f 1).es.length) :
    (rone_ N p c (.sl z b) = some (.int (eK p)) ∧ EOk c p (trs b)) ∨ (rone_ N p c (.sl z b) = some (.int (-1)) ∧ ¬ EOk c p (trs b)) := by
  have P' := P
  obtain ⟨p1, p2, p3, p4⟩ := P
  unfold rone_ rone
  simp only [es_sl]
  obtain ⟨v, h1, h2⟩ := first_val p c
  rw [h1, obind_s]
  cases v with
  | true => exact .inr ⟨rfl, fun h => by have := h2.2 ⟨h.one, h.lo, h.hi⟩; cases this⟩
  | false =>
    obtain ⟨g1, g2, g3⟩ := h2.1 rfl
    obtain ⟨x1, x2, y1, y2⟩ := ends_lt P' g2 g3
    rw [cnd_f, inb_in (by unfold len; omega), cnd_t, show (at_ (p.f 3).es 0).n = eK p from rfl, inb_in (by unfold len; omega), cnd_t]
    rw [show at_ (c.f 1).es (tn (eK p)) = eE c p from rfl, rEnds_val, obind_s]
    have ex : ((D.st [D.int (eS c p), D.int (eD c p)]).f 0).n = eS c p := rfl
    rw [ex]
    simp only [len_c, ilen_c]
    rw [iadd_in (by omega), inb_in (i := eS c p) (by omega), cnd_t, inb_in (i := ((c.f 0).es.length : Int) + _) (by omega), cnd_t, cnd_t]
    obtain ⟨v, h5, h6⟩ := three_val c p b _ _ _ (trs_at b _).symm (trs_at b _).symm rfl
    rw [h5, obind_s]
    cases v with
    | true => exact .inr ⟨rfl, fun h => by have := h6.2 ⟨h.free, h.src, h.mode⟩; cases this⟩
    | false =>
      obtain ⟨u1, u2, u3⟩ := h6.1 rfl
      exact .inl ⟨rfl, ⟨g1, g2, g3, u1, u2, u3⟩⟩

/-! ### Meets -/
noncomputable def mE (c : D) (x : Int) : D := at_ (c.f 1).es (tn x)
/-- Does an edge fit a Meet? -/
structure MFit (c p : D) (B : List Bool) (x : Int) : Prop where
  lo : 0 ≤ x
  hi : x < (c.f 1).es.length
  free : B.getD (tn ((c.f 0).es.length + x)) false = false
  touch : (((mE c x).f 2).n = (p.f 2).n ∧ B.getD (tn ((mE c x).f 3).n) false = true) ∨ (((mE c x).f 3).n = (p.f 2).n ∧ B.getD (tn ((mE c x).f 2).n) false = true)
  mode : ((mE c x).f 4).n = 0
structure MOk (c p : D) (B : List Bool) : Prop where
  lo : 0 ≤ (p.f 2).n
  hi : (p.f 2).n < (c.f 0).es.length
  free : B.getD (tn (p.f 2).n) false = false
  some : (p.f 3).es.length ≠ 0
  fit : ∀ j, j < (p.f 3).es.length → MFit c p B (at_ (p.f 3).es j).n
  apart : ∀ i j, i < j → j < (p.f 3).es.length → (at_ (p.f 3).es i).n ≠ (at_ (p.f 3).es j).n
/-- What the edges of a Meet bind, up to one. -/
def upto (c : D) (es : List D) (m : Nat) (x : Nat) : Prop := ∃ j, j < m ∧ x = tn ((c.f 0).es.length + (at_ es j).n)

theorem upto_succ {c : D} {es : List D} {m x : Nat} : upto c es (m + 1) x ↔ upto c es m x ∨ x = tn ((c.f 0).es.length + (at_ es m).n) := by
  constructor
  · rintro ⟨j, h1, h2⟩
    by_cases e : j = m
    · subst e; exact .inr h2
    · exact .inl ⟨j, by omega, h2⟩
  · rintro (⟨j, h1, h2⟩ | h)
    · exact ⟨j, by omega, h2⟩
    · exact ⟨m, by omega, h⟩

theorem meetB_l0_val {R : Type} {c p : D} (P : Pat c) {z : Bool} {es : List D} {k0 : Bool → List D → Option R} {k1 : List D → Option R} (hes : es.length ≤ 16777216) {B : List Bool} (hB : B.length = (c.f 0).es.length + (c.f 1).es.length) : ∀ (n i : Nat) (o : List D), Mk B (trs o) (upto c es i) → i ≤ es.length → es.length - i < n →
    (∀ j, j < i → MFit c p B (at_ es j).n) → (∀ a b, a < b → b < i → (at_ es a).n ≠ (at_ es b).n) →
    (∃ o', meetB_l0 N n z es (ilen (len es)) (i : Int) o (ctx c) p k0 k1 = k0 false o' ∧ ¬ ((∀ j, j < es.length → MFit c p B (at_ es j).n) ∧ ∀ a b, a < b → b < es.length → (at_ es a).n ≠ (at_ es b).n)) ∨
    ∃ o', o'.length = o.length ∧ meetB_l0 N n z es (ilen (len es)) (i : Int) o (ctx c) p k0 k1 = k1 o' ∧ Mk B (trs o') (upto c es es.length) ∧ (∀ j, j < es.length → MFit c p B (at_ es j).n) ∧ ∀ a b, a < b → b < es.length → (at_ es a).n ≠ (at_ es b).n
  | 0, i, o, _, _, h, _, _ => by omega
  | n + 1, i, o, ho, hi, h, hf, ha => by
    have hol : o.length = (c.f 0).es.length + (c.f 1).es.length := by rw [← trs_len, ho.len, hB]
    by_cases e : i = es.length
    · subst e
      exact .inr ⟨o, rfl, by simp only [meetB_l0, len_c, ilt_f, cnd_f], ho, hf, ha⟩
    · have hlt : i < es.length := by omega
      have P' := P
      obtain ⟨p1, p2, p3, p4⟩ := P
      have ih := meetB_l0_val P' (p := p) (z := z) (es := es) (k0 := k0) (k1 := k1) hes hB n (i + 1)
      simp only [meetB_l0, len_c, ilt_t hlt, cnd_t, inb_t hlt, tn_c, iadd_1 (show i < 2 ^ 62 by omega), ctx0, ctx1]
      simp only [len_c] at ih
      simp only [ilen_c] at ih ⊢
      have hx0 : (at_ es i).n = (at_ es i).n := rfl
      generalize hx : (at_ es i).n = x
      have noFit : ¬ MFit c p B x → ¬ ((∀ j, j < es.length → MFit c p B (at_ es j).n) ∧ ∀ a b, a < b → b < es.length → (at_ es a).n ≠ (at_ es b).n) := fun h1 h2 => h1 (hx ▸ h2.1 i hlt)
      -- the first question
      have h1 : ∃ v, (cnd (ilt x 0) (some true) (cnd (ile ((c.f 1).es.length : Int) x) (some true) (cnd (inb (iadd IntKind.i64 ((c.f 0).es.length : Int) x) o.length) (some (D.b (at_ o (tn (iadd IntKind.i64 ((c.f 0).es.length : Int) x))))) none))) = some v ∧
          (v = false → 0 ≤ x ∧ x < (c.f 1).es.length ∧ B.getD (tn ((c.f 0).es.length + x)) false = false ∧ ∀ j, j < i → (at_ es j).n ≠ x) ∧ (v = true → ¬ ((∀ j, j < es.length → MFit c p B (at_ es j).n) ∧ ∀ a b, a < b → b < es.length → (at_ es a).n ≠ (at_ es b).n)) := by
        cases h1 : ilt x 0 with
        | true =>
          have := ilt_is h1
          exact ⟨true, rfl, (fun h => by cases h), fun _ => noFit fun h => by have := h.lo; omega⟩
        | false =>
          rw [cnd_f]
          have h1 := ilt_not h1
          cases h2 : ile ((c.f 1).es.length : Int) x with
          | true =>
            have := ile_is h2
            exact ⟨true, rfl, (fun h => by cases h), fun _ => noFit fun h => by have := h.hi; omega⟩
          | false =>
            have h2 := ile_not h2
            rw [cnd_f, iadd_in (by omega), inb_in (by omega), cnd_t]
            have hlen : tn ((c.f 0).es.length + x) < B.length := by unfold tn; omega
            have his := ho.is _ hlen
            rw [trs_at] at his
            refine ⟨_, rfl, fun hv => ?_, fun hv => ?_⟩
            · rw [hv] at his
              have hno : ¬ (B.getD (tn ((c.f 0).es.length + x)) false = true ∨ upto c es i (tn ((c.f 0).es.length + x))) := fun h => by have := his.2 h; cases this
              refine ⟨by omega, by omega, ?_, fun j hj e => hno (.inr ⟨j, hj, by rw [e]⟩)⟩
              cases hq : B.getD (tn ((c.f 0).es.length + x)) false with
              | false => rfl
              | true => exact absurd (.inl hq) hno
            · rcases his.1 hv with h3 | ⟨j, hj, h3⟩
              · exact noFit fun h => by have := h.free; rw [h3] at this; cases this
              · have hfj := hf j hj
                have := hfj.lo
                unfold tn at h3
                exact fun h => h.2 j i hj hlt (by rw [hx]; omega)
      obtain ⟨v, h1, h2, h3⟩ := h1
      rw [h1, obind_s]
      cases v with
      | true => exact .inl ⟨_, rfl, h3 rfl⟩
      | false =>
        obtain ⟨x1, x2, x3, x4⟩ := h2 rfl
        have hm : at_ (c.f 1).es (tn x) ∈ (c.f 1).es := at_mem (by unfold tn; omega)
        obtain ⟨q1, q2, q3, q4⟩ := p4 _ hm
        rw [cnd_f, inb_in (i := x) (by omega), cnd_t, iadd_in (by omega), inb_in (i := ((c.f 0).es.length : Int) + x) (by omega), cnd_t, inb_in (i := ((at_ (c.f 1).es (tn x)).f 3).n) (by omega), cnd_t, inb_in (i := ((at_ (c.f 1).es (tn x)).f 2).n) (by omega), cnd_t]
        -- what a node is bound to
        have node : ∀ y : Int, 0 ≤ y → y < (c.f 0).es.length → D.b (at_ o (tn y)) = B.getD (tn y) false := fun y y1 y2 => by
          have hlen : tn y < B.length := by unfold tn; omega
          have his := ho.is _ hlen
          rw [trs_at] at his
          have hno : ¬ upto c es i (tn y) := fun ⟨j, hj, e⟩ => by
            have := (hf j hj).lo
            unfold tn at e; omega
          cases hq : B.getD (tn y) false with
          | true => exact his.2 (.inl hq)
          | false =>
            cases hw : D.b (at_ o (tn y)) with
            | false => rfl
            | true => rcases his.1 hw with h | h
                      · rw [hq] at h; cases h
                      · exact absurd h hno
        rw [node _ q3 q4, node _ q1 q2]
        have h3 : ∃ v, (cnd (ieq ((at_ (c.f 1).es (tn x)).f 2).n (p.f 2).n) (cnd (B.getD (tn ((at_ (c.f 1).es (tn x)).f 3).n) false) (some true) (cnd (ieq ((at_ (c.f 1).es (tn x)).f 3).n (p.f 2).n) (some (B.getD (tn ((at_ (c.f 1).es (tn x)).f 2).n) false)) (some false))) (cnd (ieq ((at_ (c.f 1).es (tn x)).f 3).n (p.f 2).n) (some (B.getD (tn ((at_ (c.f 1).es (tn x)).f 2).n) false)) (some false))) = some v ∧
            (v = true ↔ (((mE c x).f 2).n = (p.f 2).n ∧ B.getD (tn ((mE c x).f 3).n) false = true) ∨ (((mE c x).f 3).n = (p.f 2).n ∧ B.getD (tn ((mE c x).f 2).n) false = true)) := by
          unfold mE
          cases a1 : ieq ((at_ (c.f 1).es (tn x)).f 2).n (p.f 2).n <;> cases a2 : ieq ((at_ (c.f 1).es (tn x)).f 3).n (p.f 2).n <;> cases a3 : B.getD (tn ((at_ (c.f 1).es (tn x)).f 3).n) false <;> cases a4 : B.getD (tn ((at_ (c.f 1).es (tn x)).f 2).n) false <;>
            (refine ⟨_, rfl, ?_⟩; first | (have a1 := ieq_is a1) | (have a1 := ieq_not a1)) <;> (first | (have a2 := ieq_is a2) | (have a2 := ieq_not a2)) <;> simp [a1, a2]
        obtain ⟨v, h3, h4⟩ := h3
        rw [h3, obind_s]
        have h5 : (cnd (bno v) (some true) (some (bno (ieq ((at_ (c.f 1).es (tn x)).f 4).n 0)))) = some (bno v || bno (ieq ((at_ (c.f 1).es (tn x)).f 4).n 0)) := by cases v <;> rfl
        rw [h5, obind_s]
        cases hv' : (bno v || bno (ieq ((at_ (c.f 1).es (tn x)).f 4).n 0)) with
        | true =>
          refine .inl ⟨_, rfl, noFit fun h => ?_⟩
          rw [Bool.or_eq_true] at hv'
          rcases hv' with hv' | hv'
          · rw [h4.2 h.touch] at hv'; cases hv'
          · rw [ieq_in (show ((at_ (c.f 1).es (tn x)).f 4).n = 0 from h.mode)] at hv'; cases hv'
        | false =>
          rw [cnd_f]
          rw [Bool.or_eq_false_iff] at hv'
          have fit : MFit c p B x := ⟨x1, x2, x3, h4.1 (bno_not hv'.1), ieq_is (bno_not hv'.2)⟩
          have hmk : Mk B (trs (put o (tn ((c.f 0).es.length + x)) (.bool true))) (upto c es (i + 1)) := by
            rw [trs_put]
            exact (ho.set _).iff fun y _ => by rw [upto_succ, hx]
          have := ih (put o (tn ((c.f 0).es.length + x)) (.bool true)) hmk (by omega) (by omega) (fun j hj => by
            by_cases e : j = i
            · subst e; rw [hx]; exact fit
            · exact hf j (by omega)) (fun a b hab hb => by
            by_cases e : b = i
            · subst e; rw [hx]; exact x4 a hab
            · exact ha a b hab (by omega))
          rw [put_len] at this
          exact this

theorem meetB_val (hN : 16777217 ≤ N) {c : D} (P : Pat c) (p : D) (hp : sz p ≤ 16777215) (z : Bool) (b : List D) (hb : b.length = (c.f 0).es.length + (c.f 1).es.length) :
    ∃ v l, meetB_ N (ctx c) p (.sl z b) = some (.st [.bool v, .sl false l]) ∧ (v = true ↔ MOk c p (trs b)) ∧ (v = true → Mk (trs b) (trs l) (fun i => upto c (p.f 3).es (p.f 3).es.length i ∨ i = tn (p.f 2).n)) := by
  have hl := len_kids p 3
  have P' := P
  obtain ⟨p1, p2, p3, p4⟩ := P
  unfold meetB_ meetB
  rw [ctx1]
  simp only [es_sl]
  have h1 : ∃ v, (cnd (ilt (D.n (p.f 2)) 0) (some true) (cnd (ile (ilen (len (c.f 0).es)) (D.n (p.f 2))) (some true) (cnd (inb (D.n (p.f 2)) (len b)) (cnd (D.b (at_ b (tn (D.n (p.f 2))))) (some true) (some (ieq (ilen (len (p.f 3).es)) 0))) none))) = some v ∧ (v = false ↔ 0 ≤ (p.f 2).n ∧ (p.f 2).n < (c.f 0).es.length ∧ (trs b).getD (tn (p.f 2).n) false = false ∧ (p.f 3).es.length ≠ 0) := by
    cases h1 : ilt (D.n (p.f 2)) 0 with
    | true => have := ilt_is h1; exact ⟨true, rfl, ⟨fun h => (by cases h), fun h => by omega⟩⟩
    | false =>
      rw [cnd_f]
      have h1 := ilt_not h1
      cases h2 : ile (ilen (len (c.f 0).es)) (D.n (p.f 2)) with
      | true => have := ile_is h2; unfold ilen len at this; exact ⟨true, rfl, ⟨fun h => (by cases h), fun h => by omega⟩⟩
      | false =>
        have h2 := ile_not h2
        unfold ilen len at h2
        rw [cnd_f, inb_in (by unfold len; omega), cnd_t, trs_at]
        cases D.b (at_ b (tn (D.n (p.f 2)))) with
        | true => exact ⟨_, rfl, ⟨fun h => (by cases h), fun h => by cases h.2.2.1⟩⟩
        | false =>
          rw [cnd_f]
          refine ⟨_, rfl, ⟨fun h => ⟨by omega, by omega, rfl, ?_⟩, fun h => ieq_no ?_⟩⟩
          · have := ieq_not h; unfold ilen len at this; omega
          · have := h.2.2.2; unfold ilen len; omega
  obtain ⟨v, h1, h2⟩ := h1
  rw [h1, obind_s]
  cases v with
  | true => exact ⟨false, _, rfl, ⟨fun h => (by cases h), fun h => by have := h2.2 ⟨h.lo, h.hi, h.free, h.some⟩; cases this⟩, fun h => by cases h⟩
  | false =>
    obtain ⟨g1, g2, g3, g4⟩ := h2.1 rfl
    rw [cnd_f]
    rcases meetB_l0_val (N := N) P' (p := p) (z := (p.f 3).nl) (es := (p.f 3).es) (k0 := fun (t6' : Bool) (o0' : List D) => some (D.st [D.bool t6', D.sl false o0'])) (k1 := fun (o0' : List D) => cnd (inb (D.n (p.f 2)) (len o0')) (some (D.st [D.bool true, D.sl false (put o0' (tn (D.n (p.f 2))) (D.bool true))])) none) (by omega) (B := trs b) (by rw [trs_len, hb]) N 0 b
        ((Mk.refl _).iff fun i _ => ⟨fun h => h.imp id False.elim, fun h => h.imp id fun ⟨j, hj, _⟩ => by omega⟩) (Nat.zero_le _) (by omega) (fun j hj => by omega) (fun a b hab hb => by omega) with ⟨o, e1, e2⟩ | ⟨o, e1, e2, e3, e4, e5⟩
    · exact ⟨false, o, e1, ⟨fun h => (by cases h), fun h => absurd ⟨h.fit, h.apart⟩ e2⟩, fun h => by cases h⟩
    · refine ⟨true, put o (tn (p.f 2).n) (.bool true), e2.trans ?_, ⟨fun _ => ⟨g1, g2, g3, g4, e4, e5⟩, fun _ => rfl⟩, fun _ => ?_⟩
      · rw [inb_in (by unfold len; omega), cnd_t]
      · rw [trs_put]; exact e3.set _

/-- The document looks whether an edge stood before. -/
theorem dup_is {R : Type} (F : Nat → Int → Option R) (es : List D) (m : Nat) (x : Int) (k0 k1 : Option R) (hm : m ≤ es.length) (hes : es.length ≤ 16777216)
    (hF : ∀ n t, F (n + 1) t = cnd (ilt t (m : Int)) (cnd (inb t (len es)) (cnd (ieq (D.n (at_ es (tn t))) x) k0 (F n (iadd IntKind.i64 t 1))) none) k1) (hN : 16777217 ≤ N) :
    ((∀ j, j < m → (at_ es j).n ≠ x) ∧ F N 0 = k1) ∨ ∃ j, j < m ∧ (at_ es j).n = x ∧ F N 0 = k0 := by
  rcases any_loop F m (fun j => some (ieq (at_ es j).n x)) (fun _ => k0) k1
      (fun n i hi => by rw [hF, ilt_in (by omega), cnd_t, len_c, inb_t (by omega), cnd_t, tn_c, iadd_1 (by omega), obind_s])
      (fun n => by rw [hF, ilt_no (by omega), cnd_f]) (fun i hi => ⟨_, rfl⟩) N 0 (Nat.zero_le _) (by omega) with ⟨h1, h2⟩ | ⟨j, _, h1, h2, h3⟩
  · exact .inl ⟨fun j hj => ieq_not (Option.some.inj (h1 j (Nat.zero_le _) hj)), h2⟩
  · exact .inr ⟨j, h1, ieq_is (Option.some.inj h2), h3⟩

theorem rmeets_l0_val (hN : 16777217 ≤ N) {R : Type} {c p : D} (P : Pat c) {z : Bool} {b : List D} (hb : b.length = (c.f 0).es.length + (c.f 1).es.length) {k0 : Bool → Option R} {k1 : Option R} (hes : (p.f 3).es.length ≤ 16777216) : ∀ (n i : Nat), i ≤ (p.f 3).es.length → (p.f 3).es.length - i < n →
    (∀ j, j < i → MFit c p (trs b) (at_ (p.f 3).es j).n) → (∀ x y, x < y → y < i → (at_ (p.f 3).es x).n ≠ (at_ (p.f 3).es y).n) →
    (rmeets_l0 N n z b (i : Int) p c k0 k1 = k0 false ∧ ¬ ((∀ j, j < (p.f 3).es.length → MFit c p (trs b) (at_ (p.f 3).es j).n) ∧ ∀ x y, x < y → y < (p.f 3).es.length → (at_ (p.f 3).es x).n ≠ (at_ (p.f 3).es y).n)) ∨
    (rmeets_l0 N n z b (i : Int) p c k0 k1 = k1 ∧ (∀ j, j < (p.f 3).es.length → MFit c p (trs b) (at_ (p.f 3).es j).n) ∧ ∀ x y, x < y → y < (p.f 3).es.length → (at_ (p.f 3).es x).n ≠ (at_ (p.f 3).es y).n)
  | 0, i, _, h, _, _ => by omega
  | n + 1, i, hi, h, hf, ha => by
    by_cases e : i = (p.f 3).es.length
    · subst e
      exact .inr ⟨by simp only [rmeets_l0, len_c, ilt_f, cnd_f], hf, ha⟩
    · have hlt : i < (p.f 3).es.length := by omega
      have P' := P
      obtain ⟨p1, p2, p3, p4⟩ := P
      have ih := rmeets_l0_val (p := p) hN P' (z := z) hb (k0 := k0) (k1 := k1) hes n (i + 1)
      rw [rmeets_l0]
      simp only [len_c, ilt_t hlt, cnd_t, inb_t hlt, tn_c, iadd_1 (show i < 2 ^ 62 by omega)]
      simp only [ilen_c] at ih ⊢
      generalize hx : (at_ (p.f 3).es i).n = x
      have noFit : ¬ MFit c p (trs b) x → ¬ ((∀ j, j < (p.f 3).es.length → MFit c p (trs b) (at_ (p.f 3).es j).n) ∧ ∀ a b, a < b → b < (p.f 3).es.length → (at_ (p.f 3).es a).n ≠ (at_ (p.f 3).es b).n) := fun h1 h2 => h1 (hx ▸ h2.1 i hlt)
      have h1 : ∃ v, (cnd (ilt x 0) (some true) (cnd (ile ((c.f 1).es.length : Int) x) (some true) (cnd (inb (iadd IntKind.i64 ((c.f 0).es.length : Int) x) b.length) (cnd (D.b (at_ b (tn (iadd IntKind.i64 ((c.f 0).es.length : Int) x)))) (some true) (cnd (inb x (c.f 1).es.length) (some (bno (ieq (D.n (D.f (at_ (c.f 1).es (tn x)) 4)) 0))) none)) none))) = some v ∧
          (v = false ↔ 0 ≤ x ∧ x < (c.f 1).es.length ∧ (trs b).getD (tn ((c.f 0).es.length + x)) false = false ∧ ((mE c x).f 4).n = 0) := by
        cases h1 : ilt x 0 with
        | true =>
          have := ilt_is h1
          exact ⟨true, rfl, ⟨(fun h => by cases h), fun h => by omega⟩⟩
        | false =>
          rw [cnd_f]
          have h1 := ilt_not h1
          cases h2 : ile ((c.f 1).es.length : Int) x with
          | true =>
            have := ile_is h2
            exact ⟨true, rfl, ⟨(fun h => by cases h), fun h => by omega⟩⟩
          | false =>
            have h2 := ile_not h2
            rw [cnd_f, iadd_in (by omega), inb_in (by omega), cnd_t, trs_at]
            cases D.b (at_ b (tn ((c.f 0).es.length + x))) with
            | true => exact ⟨true, rfl, ⟨(fun h => by cases h), fun h => by cases h.2.2.1⟩⟩
            | false =>
              rw [cnd_f, inb_in (by omega), cnd_t]
              refine ⟨_, rfl, ⟨fun h => ⟨by omega, by omega, rfl, ieq_is (bno_not h)⟩, fun h => ?_⟩⟩
              rw [ieq_in (show (D.n (D.f (at_ (c.f 1).es (tn x)) 4)) = 0 from h.2.2.2)]; rfl
      obtain ⟨v, h1, h2⟩ := h1
      rw [h1, obind_s]
      cases v with
      | true => exact .inl ⟨rfl, noFit fun h => by have := h2.2 ⟨h.lo, h.hi, h.free, h.mode⟩; cases this⟩
      | false =>
        obtain ⟨x1, x2, x3, x4⟩ := h2.1 rfl
        have hm : at_ (c.f 1).es (tn x) ∈ (c.f 1).es := at_mem (by unfold tn; omega)
        obtain ⟨q1, q2, q3, q4⟩ := p4 _ hm
        rw [cnd_f, inb_in (i := x) (by omega), cnd_t, inb_in (i := ((at_ (c.f 1).es (tn x)).f 3).n) (by omega), cnd_t, inb_in (i := ((at_ (c.f 1).es (tn x)).f 2).n) (by omega), cnd_t, cnd_t]
        -- what comes behind the questions
        have fin : (((mE c x).f 2).n = (p.f 2).n ∧ (trs b).getD (tn ((mE c x).f 3).n) false = true) ∨ (((mE c x).f 3).n = (p.f 2).n ∧ (trs b).getD (tn ((mE c x).f 2).n) false = true) → ∀ r : Option R, (((∀ j, j < i → (at_ (p.f 3).es j).n ≠ x) ∧ r = rmeets_l0 N n z b ((i + 1 : Nat) : Int) p c k0 k1) ∨ ∃ j, j < i ∧ (at_ (p.f 3).es j).n = x ∧ r = k0 false) →
            (r = k0 false ∧ ¬ ((∀ j, j < (p.f 3).es.length → MFit c p (trs b) (at_ (p.f 3).es j).n) ∧ ∀ x y, x < y → y < (p.f 3).es.length → (at_ (p.f 3).es x).n ≠ (at_ (p.f 3).es y).n)) ∨
            (r = k1 ∧ (∀ j, j < (p.f 3).es.length → MFit c p (trs b) (at_ (p.f 3).es j).n) ∧ ∀ x y, x < y → y < (p.f 3).es.length → (at_ (p.f 3).es x).n ≠ (at_ (p.f 3).es y).n) := fun ht r hr => by
          rcases hr with ⟨h5, rfl⟩ | ⟨j, hj, h5, rfl⟩
          · exact ih (by omega) (by omega) (fun j hj => by
              by_cases e : j = i
              · subst e; rw [hx]; exact ⟨x1, x2, x3, ht, x4⟩
              · exact hf j (by omega)) (fun a b hab hb => by
              by_cases e : b = i
              · subst e; rw [hx]; exact h5 a hab
              · exact ha a b hab (by omega))
          · exact .inl ⟨rfl, fun h => h.2 j i hj hlt (by rw [hx]; exact h5)⟩
        have no : ¬ ((((mE c x).f 2).n = (p.f 2).n ∧ (trs b).getD (tn ((mE c x).f 3).n) false = true) ∨ (((mE c x).f 3).n = (p.f 2).n ∧ (trs b).getD (tn ((mE c x).f 2).n) false = true)) → (k0 false = k0 false ∧ ¬ ((∀ j, j < (p.f 3).es.length → MFit c p (trs b) (at_ (p.f 3).es j).n) ∧ ∀ x y, x < y → y < (p.f 3).es.length → (at_ (p.f 3).es x).n ≠ (at_ (p.f 3).es y).n)) ∨
            (k0 false = k1 ∧ (∀ j, j < (p.f 3).es.length → MFit c p (trs b) (at_ (p.f 3).es j).n) ∧ ∀ x y, x < y → y < (p.f 3).es.length → (at_ (p.f 3).es x).n ≠ (at_ (p.f 3).es y).n) := fun hno => .inl ⟨rfl, noFit fun h => hno h.touch⟩
        cases a1 : ieq ((at_ (c.f 1).es (tn x)).f 2).n (p.f 2).n with
        | true =>
          have b1 := ieq_is a1
          rw [cnd_t]
          cases a3 : D.b (at_ b (tn ((at_ (c.f 1).es (tn x)).f 3).n)) with
          | true =>
            rw [cnd_t]
            exact fin (.inl ⟨b1, by rw [trs_at]; exact a3⟩) _ (dup_is (N := N) (fun n' t => rmeets_l1 N n' z b (i : Int) x t z b ((at_ (c.f 1).es (tn x)).f 3).n (at_ b (tn ((at_ (c.f 1).es (tn x)).f 3).n)) true p c (at_ (c.f 1).es (tn x)) (fun (t6' : Bool) => k0 t6') (rmeets_l0 N n z b ((i + 1 : Nat) : Int) p c k0 k1)) (p.f 3).es i x _ _ (by omega) hes (fun n t => by rw [rmeets_l1]) hN)
          | false =>
            rw [cnd_f]
            cases a2 : ieq ((at_ (c.f 1).es (tn x)).f 3).n (p.f 2).n with
            | false =>
              rw [cnd_f]
              have b2 := ieq_not a2
              exact no fun h => h.elim (fun h => by have := h.2; rw [trs_at] at this; exact absurd (this.symm.trans a3) (by simp)) (fun h => b2 h.1)
            | true =>
              have b2 := ieq_is a2
              rw [cnd_t]
              cases a4 : D.b (at_ b (tn ((at_ (c.f 1).es (tn x)).f 2).n)) with
              | false =>
                rw [bno_f, cnd_t]
                exact no fun h => h.elim (fun h => by have := h.2; rw [trs_at] at this; exact absurd (this.symm.trans a3) (by simp)) (fun h => by have := h.2; rw [trs_at] at this; exact absurd (this.symm.trans a4) (by simp))
              | true =>
                rw [bno_t, cnd_f]
                exact fin (.inr ⟨b2, by rw [trs_at]; exact a4⟩) _ (dup_is (N := N) (fun n' t => rmeets_l2 N n' z b (i : Int) x t z b _ _ _ _ _ _ _ _ _ _ _ _ _ p c _ (fun (t6' : Bool) => k0 t6') _) (p.f 3).es i x _ _ (by omega) hes (fun n t => by rw [rmeets_l2]) hN)
        | false =>
          have b1 := ieq_not a1
          rw [cnd_f]
          cases a2 : ieq ((at_ (c.f 1).es (tn x)).f 3).n (p.f 2).n with
          | false =>
            rw [cnd_f]
            have b2 := ieq_not a2
            exact no fun h => h.elim (fun h => b1 h.1) (fun h => b2 h.1)
          | true =>
            have b2 := ieq_is a2
            rw [cnd_t]
            cases a4 : D.b (at_ b (tn ((at_ (c.f 1).es (tn x)).f 2).n)) with
            | false =>
              rw [bno_f, cnd_t]
              exact no fun h => h.elim (fun h => b1 h.1) (fun h => by have := h.2; rw [trs_at] at this; exact absurd (this.symm.trans a4) (by simp))
            | true =>
              rw [bno_t, cnd_f]
              exact fin (.inr ⟨b2, by rw [trs_at]; exact a4⟩) _ (dup_is (N := N) (fun n' t => rmeets_l3 N n' z b (i : Int) x t _ _ _ _ _ _ _ _ _ _ p c _ (fun (t6' : Bool) => k0 t6') _) (p.f 3).es i x _ _ (by omega) hes (fun n t => by rw [rmeets_l3]) hN)

theorem rmeets_val (hN : 16777217 ≤ N) {c : D} (P : Pat c) (p : D) (hp : sz p ≤ 16777215) (z : Bool) (b : List D) (hb : b.length = (c.f 0).es.length + (c.f 1).es.length) :
    ∃ v, rmeets_ N p c (.sl z b) = some (.bool v) ∧ (v = true ↔ MOk c p (trs b)) := by
  have hl := len_kids p 3
  have P' := P
  obtain ⟨p1, p2, p3, p4⟩ := P
  unfold rmeets_ rmeets
  simp only [es_sl, nl_sl]
  have h1 : ∃ v, (cnd (ilt (D.n (p.f 2)) 0) (some true) (cnd (ile (ilen (len (c.f 0).es)) (D.n (p.f 2))) (some true) (cnd (inb (D.n (p.f 2)) (len b)) (cnd (D.b (at_ b (tn (D.n (p.f 2))))) (some true) (some (ilt (ilen (len (p.f 3).es)) 1))) none))) = some v ∧ (v = false ↔ 0 ≤ (p.f 2).n ∧ (p.f 2).n < (c.f 0).es.length ∧ (trs b).getD (tn (p.f 2).n) false = false ∧ (p.f 3).es.length ≠ 0) := by
    cases h1 : ilt (D.n (p.f 2)) 0 with
    | true => have := ilt_is h1; exact ⟨true, rfl, ⟨fun h => (by cases h), fun h => by omega⟩⟩
    | false =>
      rw [cnd_f]
      have h1 := ilt_not h1
      cases h2 : ile (ilen (len (c.f 0).es)) (D.n (p.f 2)) with
      | true => have := ile_is h2; unfold ilen len at this; exact ⟨true, rfl, ⟨fun h => (by cases h), fun h => by omega⟩⟩
      | false =>
        have h2 := ile_not h2
        unfold ilen len at h2
        rw [cnd_f, inb_in (by unfold len; omega), cnd_t, trs_at]
        cases D.b (at_ b (tn (D.n (p.f 2)))) with
        | true => exact ⟨_, rfl, ⟨fun h => (by cases h), fun h => by cases h.2.2.1⟩⟩
        | false =>
          rw [cnd_f]
          refine ⟨_, rfl, ⟨fun h => ⟨by omega, by omega, rfl, ?_⟩, fun h => ilt_no ?_⟩⟩
          · have := ilt_not h; unfold ilen len at this; omega
          · have := h.2.2.2; unfold ilen len; omega
  obtain ⟨v, h1, h2⟩ := h1
  rw [h1, obind_s]
  cases v with
  | true => exact ⟨false, rfl, ⟨fun h => (by cases h), fun h => by have := h2.2 ⟨h.lo, h.hi, h.free, h.some⟩; cases this⟩⟩
  | false =>
    obtain ⟨g1, g2, g3, g4⟩ := h2.1 rfl
    rw [cnd_f]
    rcases rmeets_l0_val (p := p) hN P' (z := z) hb (k0 := fun (t6' : Bool) => some (D.bool t6')) (k1 := some (D.bool true)) (by omega) N 0 (Nat.zero_le _) (by omega) (fun j hj => by omega) (fun a b hab hb => by omega) with ⟨e1, e2⟩ | ⟨e1, e4, e5⟩
    · exact ⟨false, e1, ⟨fun h => (by cases h), fun h => absurd ⟨h.fit, h.apart⟩ e2⟩⟩
    · exact ⟨true, e1, ⟨fun _ => ⟨g1, g2, g3, g4, e4, e5⟩, fun _ => rfl⟩⟩
end Go.Ev.S

namespace Go.Ev.S
open Go Go.Ev
set_option linter.unusedVariables false
variable {N : Nat}

/-- Two answers that say the same. -/
def Sm (r d : D) : Prop := r.nl = d.nl ∧ trs r.es = trs d.es

/-! ### Joins -/
theorem Mk.self {B l : List Bool} {S : Nat → Prop} (h : Mk B l S) {i : Nat} (hi : i < B.length) (hn : ¬ S i) : l.getD i false = B.getD i false := by
  have := h.is i hi
  cases a : l.getD i false <;> cases b : B.getD i false
  · rfl
  · rw [a, b] at this; have := this.2 (.inl rfl); cases this
  · rw [a, b] at this; rcases this.1 rfl with h | h
    · cases h
    · exact absurd h hn
  · rfl

/-- The program's: the other kid's truths are put into these. -/
theorem join_l2_val {Gb X : D → D → Option D} {Ge Gm : D → D → D → Option D} {a : D} {n0 : Nat} (ha : (a.f 1).n = (n0 : Int)) {l : List D} (hl : l.length ≤ 16777216) {B : List Bool} (hB : B.length = l.length) {k : Bool → List D → Option D} : ∀ (n i : Nat) (o : List D) (z : Bool), Mk B (trs o) (fun x => x < i ∧ (trs l).getD x false = true) → i ≤ l.length → l.length - i < n →
    ∃ z' o', bound2_l2 Gb X Ge Gm N n z (ilen (len l)) (i : Int) a l o k = k z' o' ∧ Mk B (trs o') (fun x => (trs l).getD x false = true) ∧ (z' = true ↔ z = true ∧ ∀ j, i ≤ j → n0 ≤ j → j < l.length → ¬ ((trs l).getD j false = true ∧ B.getD j false = true))
  | 0, i, o, z, _, _, h => by omega
  | n + 1, i, o, z, ho, hi, h => by
    have hol : o.length = l.length := by rw [← trs_len, ho.len, hB]
    by_cases e : i = l.length
    · subst e
      exact ⟨z, o, by simp only [bound2_l2, len_c, ilt_f, cnd_f], ho.iff fun x hx => by rw [hB] at hx; simp [hx], fun h => ⟨h, fun j _ _ _ => by omega⟩, fun h => h.1⟩
    · have hlt : i < l.length := by omega
      have hlo : i < o.length := by omega
      simp only [bound2_l2, len_c, ilt_t hlt, cnd_t, inb_t hlt, inb_t hlo, tn_c, iadd_1 (show i < 2 ^ 62 by omega), ha]
      have hoi : (at_ o i).b = B.getD i false := by
        rw [← trs_at]; exact ho.self (by omega) (fun h => by omega)
      have hb : (cnd z (cnd (D.b (at_ l i)) (cnd (D.b (at_ o i)) (some (bno (ile (n0 : Int) (i : Int)))) (some true)) (some true)) (some false)) = some (z && !((trs l).getD i false && B.getD i false && decide (n0 ≤ i))) := by
        have : ile (n0 : Int) (i : Int) = decide (n0 ≤ i) := by unfold ile; exact decide_eq_decide.2 (by omega)
        rw [this, bno_c, trs_at, ← hoi]
        cases z <;> cases (at_ l i).b <;> cases (at_ o i).b <;> rfl
      rw [hb, obind_s]
      have hx : ∀ x y : D, ∀ (F : D → Option D), (cnd (D.b (at_ o i)) (F x) (F y)) = F (cnd (D.b (at_ o i)) x y) := fun x y F => by cases D.b (at_ o i) <;> rfl
      rw [hx _ _ (fun x => bound2_l2 Gb X Ge Gm N n _ _ _ a l (put o i x) k)]
      have hxb : (cnd (D.b (at_ o i)) (D.bool true) (D.bool (D.b (at_ l i)))).b = (B.getD i false || (trs l).getD i false) := by
        rw [← hoi, trs_at]; cases D.b (at_ o i) <;> rfl
      generalize cnd (D.b (at_ o i)) _ _ = x at hxb
      have hmk : Mk B (trs (put o i x)) (fun x => x < i + 1 ∧ (trs l).getD x false = true) := by
        rw [trs_put, hxb]
        refine ⟨by rw [List.length_set, ho.len], fun j hj => ?_⟩
        rw [getD_set (by rw [ho.len]; exact hj)]
        by_cases e : j = i
        · subst e
          rw [if_pos rfl, Bool.or_eq_true]
          exact ⟨fun h => h.imp id fun h => ⟨by omega, h⟩, fun h => h.imp id fun h => h.2⟩
        · rw [if_neg e, ho.is j hj]
          exact ⟨fun h => h.imp id fun h => ⟨by omega, h.2⟩, fun h => h.imp id fun h => ⟨by omega, h.2⟩⟩
      obtain ⟨z', o', g1, g2, g3⟩ := join_l2_val (Gb := Gb) (X := X) (Ge := Ge) (Gm := Gm) ha hl hB (k := k) n (i + 1) (put o i x) (z && !((trs l).getD i false && B.getD i false && decide (n0 ≤ i))) hmk (by omega) (by omega)
      refine ⟨z', o', g1, g2, g3.trans ?_⟩
      constructor
      · rintro ⟨h1, h2⟩
        rw [Bool.and_eq_true] at h1
        refine ⟨h1.1, fun j j1 j2 j3 => ?_⟩
        by_cases e : j = i
        · subst e
          rintro ⟨u, v⟩
          have := h1.2
          rw [u, v, decide_eq_true j2] at this
          cases this
        · exact h2 j (by omega) j2 j3
      · rintro ⟨h1, h2⟩
        refine ⟨?_, fun j j1 j2 j3 => h2 j (by omega) j2 j3⟩
        rw [h1, Bool.true_and, Bool.not_eq_true']
        rw [Bool.eq_false_iff]
        intro h3
        rw [Bool.and_eq_true, Bool.and_eq_true] at h3
        exact h2 i (Nat.le_refl _) (of_decide_eq_true h3.2) hlt h3.1

/-- The document's. -/
theorem rjoin_val (hN : 16777217 ≤ N) {Gi X : D → D → Option D} {Gm Go : D → D → D → Option D} {c : D} {o4 : List D} {w : Nat} (hw : w ≤ 16777216) (h4 : o4.length = w) {B : List Bool} (hB : B.length = w) {k0 : List D → List D → Option D} {k1 : List D → Option D} : ∀ (n i : Nat) (o : List D), Mk B (trs o) (fun x => x < i ∧ (trs o4).getD x false = true) → i ≤ w → w - i < n →
    (∃ o', rbound_l3 Gi X Gm Go N n (w : Int) (i : Int) c o o4 k0 k1 = k0 o' [] ∧ ¬ ∀ j, i ≤ j → (c.f 0).es.length ≤ j → j < w → ¬ (B.getD j false = true ∧ (trs o4).getD j false = true)) ∨
    ∃ o', rbound_l3 Gi X Gm Go N n (w : Int) (i : Int) c o o4 k0 k1 = k1 o' ∧ Mk B (trs o') (fun x => (trs o4).getD x false = true) ∧ ∀ j, i ≤ j → (c.f 0).es.length ≤ j → j < w → ¬ (B.getD j false = true ∧ (trs o4).getD j false = true)
  | 0, i, o, _, _, h => by omega
  | n + 1, i, o, ho, hi, h => by
    have hol : o.length = w := by rw [← trs_len, ho.len, hB]
    rw [rbound_l3]
    by_cases e : i = w
    · subst e
      refine .inr ⟨o, by rw [ilt_no (by omega), cnd_f], ho.iff fun x hx => by rw [hB] at hx; simp [hx], fun j h1 _ h2 => by omega⟩
    · have hlt : i < w := by omega
      rw [ilt_in (by omega), cnd_t]
      simp only [len_c, hol, h4, inb_t hlt, cnd_t, tn_c, iadd_1 (show i < 2 ^ 62 by omega)]
      have hoi : (at_ o i).b = B.getD i false := by
        rw [← trs_at]; exact ho.self (by omega) (fun h => by omega)
      have h4i : (at_ o4 i).b = (trs o4).getD i false := (trs_at o4 i).symm
      have hb : (cnd (ile (ilen (c.f 0).es.length) (i : Int)) (cnd (D.b (at_ o i)) (some (D.b (at_ o4 i))) (some false)) (some false)) = some (decide ((c.f 0).es.length ≤ i) && B.getD i false && (trs o4).getD i false) := by
        have : ile (ilen (c.f 0).es.length) (i : Int) = decide ((c.f 0).es.length ≤ i) := by unfold ile ilen; exact decide_eq_decide.2 (by omega)
        rw [this, hoi, h4i]
        cases decide ((c.f 0).es.length ≤ i) <;> cases B.getD i false <;> rfl
      rw [hb, obind_s]
      cases hv : (decide ((c.f 0).es.length ≤ i) && B.getD i false && (trs o4).getD i false) with
      | true =>
        rw [Bool.and_eq_true, Bool.and_eq_true] at hv
        exact .inl ⟨_, rfl, fun h => h i (Nat.le_refl _) (of_decide_eq_true hv.1.1) hlt ⟨hv.1.2, hv.2⟩⟩
      | false =>
        rw [cnd_f]
        have hx : ∀ x y : D, ∀ (F : D → Option D), (cnd (D.b (at_ o i)) (F x) (F y)) = F (cnd (D.b (at_ o i)) x y) := fun x y F => by cases D.b (at_ o i) <;> rfl
        rw [hx _ _ (fun x => rbound_l3 Gi X Gm Go N n _ _ c (put o i x) o4 k0 k1)]
        have hxb : (cnd (D.b (at_ o i)) (D.bool true) (D.bool (D.b (at_ o4 i)))).b = (B.getD i false || (trs o4).getD i false) := by
          rw [← hoi, ← h4i]; cases D.b (at_ o i) <;> rfl
        generalize cnd (D.b (at_ o i)) _ _ = x at hxb
        have hmk : Mk B (trs (put o i x)) (fun x => x < i + 1 ∧ (trs o4).getD x false = true) := by
          rw [trs_put, hxb]
          refine ⟨by rw [List.length_set, ho.len], fun j hj => ?_⟩
          rw [getD_set (by rw [ho.len]; exact hj)]
          by_cases e : j = i
          · subst e
            rw [if_pos rfl, Bool.or_eq_true]
            exact ⟨fun h => h.imp id fun h => ⟨by omega, h⟩, fun h => h.imp id fun h => h.2⟩
          · rw [if_neg e, ho.is j hj]
            exact ⟨fun h => h.imp id fun h => ⟨by omega, h.2⟩, fun h => h.imp id fun h => ⟨by omega, h.2⟩⟩
        rcases rjoin_val hN (Gi := Gi) (X := X) (Gm := Gm) (Go := Go) hw h4 hB (k0 := k0) (k1 := k1) n (i + 1) (put o i x) hmk (by omega) (by omega) with ⟨o', g1, g2⟩ | ⟨o', g1, g2, g3⟩
        · exact .inl ⟨o', g1, fun h => g2 fun j j1 j2 j3 => h j (by omega) j2 j3⟩
        · refine .inr ⟨o', g1, g2, fun j j1 j2 j3 => ?_⟩
          by_cases e : j = i
          · subst e
            rintro ⟨u, v⟩
            rw [u, v, decide_eq_true j2] at hv
            cases hv
          · exact g3 j (by omega) j2 j3

/-! ### Meets and Filters of the document -/
theorem rmark_val {Gi X : D → D → Option D} {Gm Go : D → D → D → Option D} {c p : D} (P : Pat c) {B : List Bool} (hB : B.length = (c.f 0).es.length + (c.f 1).es.length) {S : Nat → Prop} (hes : (p.f 3).es.length ≤ 16777216) (hf : ∀ j, j < (p.f 3).es.length → 0 ≤ (at_ (p.f 3).es j).n ∧ (at_ (p.f 3).es j).n < (c.f 1).es.length) {k : List D → Option D} : ∀ (n i : Nat) (o : List D), Mk B (trs o) (fun x => S x ∨ upto c (p.f 3).es i x) → i ≤ (p.f 3).es.length → (p.f 3).es.length - i < n →
    ∃ o', rbound_l10 Gi X Gm Go N n (i : Int) p c o k = k o' ∧ Mk B (trs o') (fun x => S x ∨ upto c (p.f 3).es (p.f 3).es.length x)
  | 0, i, o, _, _, h => by omega
  | n + 1, i, o, ho, hi, h => by
    have hol : o.length = (c.f 0).es.length + (c.f 1).es.length := by rw [← trs_len, ho.len, hB]
    rw [rbound_l10]
    by_cases e : i = (p.f 3).es.length
    · subst e
      exact ⟨o, by rw [len_c, ilt_f, cnd_f], ho⟩
    · have hlt : i < (p.f 3).es.length := by omega
      obtain ⟨f1, f2⟩ := hf i hlt
      have P' := P
      obtain ⟨p1, p2, p3, p4⟩ := P
      rw [len_c, len_c, len_c, ilt_t hlt, cnd_t, inb_t hlt, cnd_t, tn_c, ilen_c, iadd_in (x := ((c.f 0).es.length : Int)) (by omega), inb_in (by omega), cnd_t, iadd_1 (by omega)]
      refine rmark_val P' hB hes hf n (i + 1) _ ?_ (by omega) (by omega)
      rw [trs_put]
      exact (ho.set _).iff fun x _ => by rw [upto_succ, or_assoc]
theorem rfilt_val (hN : 16777217 ≤ N) {X : D → D → Option D} {Gm Go : D → D → D → Option D} (p : D) (hp : sz p ≤ 16777215) (b : List D) {k0 : List D → Option D} {k1 : Option D} :
    rbound_l11 (rBinds_ N) X Gm Go N N 0 p b k0 k1 = if (p.f 5).es.all (bnds N b) then k1 else k0 [] := by
  have hl := len_kids p 5
  rcases any_loop (fun n i => rbound_l11 (rBinds_ N) X Gm Go N n i p b k0 k1) (p.f 5).es.length
      (fun i => some (bno (bnds N b (at_ (p.f 5).es i)))) (fun _ => k0 []) k1
      (fun n i hi => by
        have := sz_kid (at_mem hi)
        rw [bnds_bt hN b _ (by omega)]
        simp only [rbound_l11, len_c, ilt_t hi, cnd_t, inb_t hi, tn_c, iadd_1 (show i < 2 ^ 62 by omega), rBinds_val hN false b (at_ (p.f 5).es i) (by omega), obind_s, b_bool])
      (fun n => by simp only [rbound_l11, len_c, ilt_f, cnd_f])
      (fun i hi => ⟨_, rfl⟩) N 0 (Nat.zero_le _) (by omega) with ⟨h1, g⟩ | ⟨j, _, h2, h3, g⟩
  · refine g.trans ?_
    rw [if_pos]
    rw [List.all_eq_true]
    intro d hd
    obtain ⟨i, hi⟩ := List.mem_iff_getElem?.1 hd
    have := h1 i (Nat.zero_le _) (List.getElem?_eq_some_iff.1 hi).1
    simp only [at_, List.getD_eq_getElem?_getD, hi, Option.getD_some, Option.some.injEq] at this
    exact bno_not this
  · refine g.trans ?_
    rw [if_neg]
    rw [List.all_eq_true]
    intro h
    have := h _ (at_mem h2)
    rw [bno_is (Option.some.inj h3)] at this
    cases this

/-! ### A plan -/
theorem scan_val {Gb X : D → D → Option D} {Ge Gm : D → D → D → Option D} {c : D} (P : Pat c) (f0 f2 f3 f4 f5 : D) (nl : Bool) (h1 : f0.n = 1) :
    bound0 Gb X Ge Gm N (ctx c) f0 f2 f3 f4 f5 nl = some (if 0 ≤ f2.n ∧ f2.n < (c.f 0).es.length then .sl false (put (reps ((c.f 0).es.length + (c.f 1).es.length) (.bool false)) (tn f2.n) (.bool true)) else .sl true []) := by
  have hs := size_is P
  unfold bound0
  rw [h1]
  rw [show (cnd (bno (bsel (ieq 1 1) true (bsel (ieq 1 2) true (bsel (ieq 1 3) true (bsel (ieq 1 4) true (bsel (ieq 1 5) true (bsel (ieq 1 6) true false))))))) (some true) (some (bno (ieq (isel (ieq 1 1) 0 (isel (ieq 1 2) 1 (isel (ieq 1 3) 1 (isel (ieq 1 4) 2 (isel (ieq 1 5) 1 (isel (ieq 1 6) 1 0)))))) 0)))) = some false from rfl, obind_s, cnd_f, head_room P, hs, show ieq 1 1 = true from rfl, cnd_t]
  cases h2 : ile 0 f2.n with
  | false =>
    have := ile_not h2
    rw [cnd_f, obind_s, if_neg (by omega)]; rfl
  | true =>
    rw [cnd_t]
    have h2 := ile_is h2
    cases h3 : ilt f2.n ((ctx c).f 1).n with
    | false =>
      have h3 := ilt_not h3
      rw [ctx1] at h3
      unfold ilen len at h3
      rw [obind_s, if_neg (by omega)]; rfl
    | true =>
      have h3 := ilt_is h3
      rw [ctx1] at h3
      unfold ilen len at h3
      rw [obind_s, cnd_t, inb_in (by unfold len reps; rw [List.length_replicate]; omega), if_pos (by omega)]
      rfl

/-- The document's head of a plan: how many kids there must be. -/
theorem rhead (o : Int) (m : Nat) (mi : Int) (hm : mi = (m : Int)) (l : List D) : (cnd (ilt o 1) (some true) (cnd (ilt 6 o) (some true) (some (bno (ieq (ilen (len l)) mi))))) = some (decide (¬ (1 ≤ o ∧ o ≤ 6 ∧ l.length = m))) := by
  subst hm
  unfold ilt
  by_cases h1 : o < 1
  · rw [decide_eq_true h1, cnd_t, decide_eq_true (by omega)]
  · rw [decide_eq_false h1, cnd_f]
    by_cases h2 : 6 < o
    · rw [decide_eq_true h2, cnd_t, decide_eq_true (by omega)]
    · rw [decide_eq_false h2, cnd_f]
      by_cases h3 : l.length = m
      · rw [ieq_in (by unfold ilen len; omega), decide_eq_false (by omega)]; rfl
      · rw [ieq_no (by unfold ilen len; omega), decide_eq_true (by omega)]; rfl

theorem nil_Sm : Sm (.sl true []) (.sl true []) := ⟨rfl, rfl⟩

/-- What an edge binds, by the document. -/
theorem rstep_val {c : D} (P : Pat c) (p : D) (b : List D) (hb : b.length = (c.f 0).es.length + (c.f 1).es.length) :
    ∃ r, (obind (rone_ N p c (D.sl false b)) fun (d_1 : D) => cnd (ilt (D.n d_1) 0) (some (D.sl true [])) (cnd (inb (iadd IntKind.i64 (ilen (len (D.es (D.f c 0)))) (D.n d_1)) (len b)) (cnd (inb (D.n d_1) (len (D.es (D.f c 1)))) (cnd (inb (D.n (D.f (at_ (D.es (D.f c 1)) (tn (D.n d_1))) 2)) (len (put b (tn (iadd IntKind.i64 (ilen (len (D.es (D.f c 0)))) (D.n d_1))) (D.bool true)))) (cnd (inb (D.n d_1) (len (D.es (D.f c 1)))) (cnd (inb (D.n (D.f (at_ (D.es (D.f c 1)) (tn (D.n d_1))) 3)) (len (put (put b (tn (iadd IntKind.i64 (ilen (len (D.es (D.f c 0)))) (D.n d_1))) (D.bool true)) (tn (D.n (D.f (at_ (D.es (D.f c 1)) (tn (D.n d_1))) 2))) (D.bool true)))) (some (D.sl false (put (put (put b (tn (iadd IntKind.i64 (ilen (len (D.es (D.f c 0)))) (D.n d_1))) (D.bool true)) (tn (D.n (D.f (at_ (D.es (D.f c 1)) (tn (D.n d_1))) 2))) (D.bool true)) (tn (D.n (D.f (at_ (D.es (D.f c 1)) (tn (D.n d_1))) 3))) (D.bool true)))) none) none) none) none) none)) = some r ∧
      ∀ d, (obind (edge_ N (ctx c) p (D.sl false b)) fun (d : D) => cnd (bno (D.b (D.f d 0))) (some (D.sl true [])) (some (D.sl false (D.es (D.f d 1))))) = some d → Sm r d := by
  obtain ⟨v, l, e1, e2, e3⟩ := edge_val (N := N) P p false b hb
  rw [e1, obind_s, st_0, st_1, b_bool]
  have P' := P
  obtain ⟨p1, p2, p3, p4⟩ := P
  rcases one_val (N := N) P' p false b hb with ⟨g1, g2⟩ | ⟨g1, g2⟩
  · have hv := e2.2 g2
    subst hv
    have hmk := e3 rfl
    obtain ⟨q1, q2, q3, q4⟩ := p4 (eE c p) (at_mem (by have := g2.lo; have := g2.hi; unfold tn; omega))
    have h0 := g2.lo
    have h1 := g2.hi
    rw [g1, obind_s, n_int, ilt_no (by omega), cnd_f, show at_ (c.f 1).es (tn (eK p)) = eE c p from rfl]
    simp only [len_c, ilen_c, put_len]
    rw [iadd_in (by omega), inb_in (by omega), cnd_t, inb_in (by omega), cnd_t, inb_in (by omega), cnd_t, cnd_t, inb_in (by omega), cnd_t]
    refine ⟨_, rfl, fun d hd => ?_⟩
    rw [bno_t, cnd_f] at hd
    cases hd
    refine ⟨rfl, ?_⟩
    simp only [es_sl]
    refine Mk.same (B := trs b) (S := fun i => i = tn ((c.f 0).es.length + eK p) ∨ i = tn (eD c p)) ?_ hmk
    rw [trs_put, trs_put, trs_put]
    refine ((((Mk.refl (trs b)).set _).set _).set _).iff fun i hi => ?_
    have hsrc := g2.src
    unfold eS at hsrc
    unfold eD
    by_cases hbk : (p.f 4).b = true
    · rw [if_pos hbk] at hsrc ⊢
      constructor
      · rintro (h | ((h | h) | h) | h)
        · exact .inl h
        · exact h.elim
        · exact .inr (.inl h)
        · exact .inr (.inr h)
        · subst h; exact .inl hsrc
      · rintro (h | h | h)
        · exact .inl h
        · exact .inr (.inl (.inl (.inr h)))
        · exact .inr (.inl (.inr h))
    · rw [if_neg hbk] at hsrc ⊢
      constructor
      · rintro (h | ((h | h) | h) | h)
        · exact .inl h
        · exact h.elim
        · exact .inr (.inl h)
        · subst h; exact .inl hsrc
        · exact .inr (.inr h)
      · rintro (h | h | h)
        · exact .inl h
        · exact .inr (.inl (.inl (.inr h)))
        · exact .inr (.inr h)
  · have hv : v = false := by
      cases v with
      | false => rfl
      | true => exact absurd (e2.1 rfl) g2
    subst hv
    rw [g1, obind_s, n_int, ilt_in (by omega), cnd_t]
    refine ⟨_, rfl, fun d hd => ?_⟩
    rw [bno_f, cnd_t] at hd
    cases hd
    exact nil_Sm

theorem Sm.fine {c r d : D} (h : Sm r d) (hd : Fine c d) : (r.nl = true ∧ d = .sl true []) ∨ ∃ b, r.nl = false ∧ d = .sl false b ∧ b.length = (c.f 0).es.length + (c.f 1).es.length ∧ r.es.length = b.length ∧ trs r.es = trs b := by
  rcases hd with rfl | ⟨b, rfl, hb⟩
  · exact .inl ⟨h.1, rfl⟩
  · refine .inr ⟨b, h.1, rfl, hb, ?_, h.2⟩
    have := congrArg List.length h.2
    rwa [trs_len, trs_len] at this

theorem bnds_Sm (hN : 16777217 ≤ N) {b b' : List D} (h : trs b = trs b') (l : List D) (hl : szL l ≤ 16777215) : l.all (bnds N b) = l.all (bnds N b') := by
  rw [Bool.eq_iff_iff, List.all_eq_true, List.all_eq_true]
  have : ∀ x ∈ l, bnds N b x = bnds N b' x := fun x hx => by
    have := szL_mem hx
    rw [bnds_bt hN b x (by omega), bnds_bt hN b' x (by omega), h]
  exact ⟨fun h x hx => (this x hx).symm.trans (h x hx), fun h x hx => (this x hx).trans (h x hx)⟩

theorem rbound_val (hN : 16777217 ≤ N) {c : D} (P : Pat c) : ∀ (k : Nat) (p : D), Pl p → sz p < k → sz p ≤ 16777215 → ∃ r, rbound_ N k p c = some r ∧ Sm r (bd N c p)
  | 0, p, _, h, _ => by omega
  | k + 1, p, hp, h, hs => by
    have hp' := hp
    obtain ⟨hn, hks⟩ := hp
    rename_i f0 f2 f3 f4 f5 nl ks
    have hbd := bd_is hN P hp' hs (k := sz (.st [f0, .sl nl ks, f2, f3, f4, f5]) + 1) (by omega)
    have e : ∀ p, rbound_ N (k + 1) p c = rbound (rBinds_ N) (rbound_ N k) (rmeets_ N) (rone_ N) N p c := fun _ => rfl
    have e0 : ((D.st [f0, .sl nl ks, f2, f3, f4, f5]).f 0) = f0 := rfl
    have e1 : ((D.st [f0, .sl nl ks, f2, f3, f4, f5]).f 1).es = ks := rfl
    have e2 : ((D.st [f0, .sl nl ks, f2, f3, f4, f5]).f 2) = f2 := rfl
    have e3 : ((D.st [f0, .sl nl ks, f2, f3, f4, f5]).f 3) = f3 := rfl
    have e5 : ((D.st [f0, .sl nl ks, f2, f3, f4, f5]).f 5) = f5 := rfl
    have kid : ∀ x ∈ ks, ∃ r, rbound_ N k x c = some r ∧ Sm r (bd N c x) ∧ Fine c (bd N c x) ∧ ∀ j, sz x < j → bound_ N j (ctx c) x = some (bd N c x) := fun x hx => by
      have := sz_sub (f0 := f0) (f2 := f2) (f3 := f3) (f4 := f4) (f5 := f5) (nl := nl) hx
      obtain ⟨r, h1, h2⟩ := rbound_val hN P k x (hks x hx) (by omega) (by omega)
      exact ⟨r, h1, h2, (bd_is hN P (hks x hx) (by omega) (k := sz x + 1) (by omega)).2, fun j hj => (bd_is hN P (hks x hx) (by omega) hj).1⟩
    obtain ⟨p1, p2, p3, p4⟩ := P
    have P : Pat c := ⟨p1, p2, p3, p4⟩
    have hl3 := len_kids (D.st [f0, .sl nl ks, f2, f3, f4, f5]) 3
    rw [e3] at hl3
    have hsz := sz_kids (D.st [f0, .sl nl ks, f2, f3, f4, f5]) 5
    rw [e5] at hsz
    -- a plan that is not one
    have bad : (∀ j, bound_ N (j + 1) (ctx c) (.st [f0, .sl nl ks, f2, f3, f4, f5]) = some (.sl true [])) → rbound_ N (k + 1) (.st [f0, .sl nl ks, f2, f3, f4, f5]) c = some (.sl true []) → ∃ r, rbound_ N (k + 1) (.st [f0, .sl nl ks, f2, f3, f4, f5]) c = some r ∧ Sm r (bd N c (.st [f0, .sl nl ks, f2, f3, f4, f5])) := fun h1 h2 => by
      have := hbd.1.symm.trans (h1 _)
      exact ⟨_, h2, by rw [Option.some.inj this]; exact nil_Sm⟩
    rw [e] at bad ⊢
    by_cases q1 : f0.n = 1
    · -- a Scan
      have hr : rbound (rBinds_ N) (rbound_ N k) (rmeets_ N) (rone_ N) N (.st [f0, .sl nl ks, f2, f3, f4, f5]) c = if ks.length = 0 then some (if 0 ≤ f2.n ∧ f2.n < (c.f 0).es.length then .sl false (put (reps ((c.f 0).es.length + (c.f 1).es.length) (.bool false)) (tn f2.n) (.bool true)) else .sl true []) else some (.sl true []) := by
        unfold rbound
        rw [e0, e1, q1, show ieq 1 1 = true from rfl, cnd_t, rhead _ 0 0 rfl, obind_s]
        by_cases h0 : ks.length = 0
        · rw [decide_eq_false (by omega), cnd_f, if_pos h0, e2]
          have hb : (cnd (ilt (D.n f2) 0) (some true) (some (ile (ilen (len (c.f 0).es)) (D.n f2)))) = some (decide (¬ (0 ≤ f2.n ∧ f2.n < (c.f 0).es.length))) := by
            unfold ilt ile ilen len
            by_cases h1 : f2.n < 0
            · rw [decide_eq_true h1, cnd_t, decide_eq_true (by omega)]
            · rw [decide_eq_false h1, cnd_f]; congr 1; exact decide_eq_decide.2 (by omega)
          rw [hb, obind_s]
          by_cases h1 : 0 ≤ f2.n ∧ f2.n < (c.f 0).es.length
          · rw [decide_eq_false (by omega), cnd_f, if_pos h1]
            unfold ilen len
            rw [iadd_in (by omega), show tn (((c.f 0).es.length : Int) + ((c.f 1).es.length : Int)) = (c.f 0).es.length + (c.f 1).es.length from by unfold tn; omega, ile_in (by omega), cnd_t, ile_in (Int.le_refl _), cnd_t, room_in (by omega) (by omega), cnd_t, inb_in (by unfold reps; rw [List.length_replicate]; omega), cnd_t]
          · rw [decide_eq_true h1, cnd_t, if_neg h1]
        · rw [decide_eq_true (by omega), cnd_t, if_neg h0]
      match ks, hks, hbd, hr, bad with
      | [], hks, hbd, hr, bad =>
        rw [hr, if_pos (show ([] : List D).length = 0 from rfl)]
        have e6 : ∀ j, bound_ N (j + 1) (ctx c) (.st [f0, .sl nl [], f2, f3, f4, f5]) = bound0 (binds_ N) (bound_ N j) (edge_ N) (meetB_ N) N (ctx c) f0 f2 f3 f4 f5 nl := fun _ => rfl
        have := hbd.1.symm.trans ((e6 _).trans (scan_val P f0 f2 f3 f4 f5 nl q1))
        exact ⟨_, rfl, by rw [Option.some.inj this]; exact ⟨rfl, rfl⟩⟩
      | [x], hks, hbd, hr, bad =>
        refine bad (fun j => ?_) (by rw [hr, if_neg (by simp)])
        rcases bound1_is (Gb := binds_ N) (X := bound_ N j) (Ge := edge_ N) (Gm := meetB_ N) (N := N) P f0 x f2 f3 f4 f5 nl with ⟨_, g⟩ | ⟨h1, g⟩
        · exact g
        · omega
      | [x, y], hks, hbd, hr, bad =>
        refine bad (fun j => ?_) (by rw [hr, if_neg (by simp)])
        rcases bound2_is (Gb := binds_ N) (X := bound_ N j) (Ge := edge_ N) (Gm := meetB_ N) (N := N) P f0 x y f2 f3 f4 f5 nl with ⟨_, g⟩ | ⟨h1, g⟩
        · exact g
        · omega
      | x :: y :: z :: l, hks, hbd, hr, bad =>
        exact bad (fun j => boundG_is (Gb := binds_ N) (X := bound_ N j) (Ge := edge_ N) (Gm := meetB_ N) (N := N) (ctx c) (.st [f0, .sl nl (x :: y :: z :: l), f2, f3, f4, f5]) (by show 3 ≤ (x :: y :: z :: l).length; simp)) (by rw [hr, if_neg (by simp)])
    by_cases q4 : f0.n = 4
    · -- a Join
      have hr : ks.length ≠ 2 → rbound (rBinds_ N) (rbound_ N k) (rmeets_ N) (rone_ N) N (.st [f0, .sl nl ks, f2, f3, f4, f5]) c = some (.sl true []) := fun h2 => by
        unfold rbound
        rw [e0, e1, q4, show ieq 4 1 = false from rfl, cnd_f, show ieq 4 4 = true from rfl, cnd_t, rhead _ 2 2 rfl, obind_s, decide_eq_true (by omega), cnd_t]
      match ks, hks, hbd, hr, bad, kid with
      | [], hks, hbd, hr, bad, kid =>
        refine bad (fun j => ?_) (hr (by simp))
        rcases bound0_is (Gb := binds_ N) (X := bound_ N j) (Y := bound_ N j) (Ge := edge_ N) (Gm := meetB_ N) (N := N) P f0 f2 f3 f4 f5 nl with ⟨_, g⟩ | ⟨h1, _⟩
        · exact g
        · omega
      | [x], hks, hbd, hr, bad, kid =>
        refine bad (fun j => ?_) (hr (by simp))
        rcases bound1_is (Gb := binds_ N) (X := bound_ N j) (Ge := edge_ N) (Gm := meetB_ N) (N := N) P f0 x f2 f3 f4 f5 nl with ⟨_, g⟩ | ⟨h1, g⟩
        · exact g
        · omega
      | x :: y :: z :: l, hks, hbd, hr, bad, kid =>
        exact bad (fun j => boundG_is (Gb := binds_ N) (X := bound_ N j) (Ge := edge_ N) (Gm := meetB_ N) (N := N) (ctx c) (.st [f0, .sl nl (x :: y :: z :: l), f2, f3, f4, f5]) (by show 3 ≤ (x :: y :: z :: l).length; simp)) (hr (by simp))
      | [x, y], hks, hbd, hr, bad, kid =>
        obtain ⟨r, r1, r2, r3, r4⟩ := kid x (by simp)
        obtain ⟨s, s1, s2, s3, s4⟩ := kid y (by simp)
        have hx := sz_sub (f0 := f0) (f2 := f2) (f3 := f3) (f4 := f4) (f5 := f5) (nl := nl) (by simp : x ∈ [x, y])
        have hy := sz_sub (f0 := f0) (f2 := f2) (f3 := f3) (f4 := f4) (f5 := f5) (nl := nl) (by simp : y ∈ [x, y])
        rcases bound2_is (Gb := binds_ N) (X := bound_ N (sz (.st [f0, .sl nl [x, y], f2, f3, f4, f5]))) (Ge := edge_ N) (Gm := meetB_ N) (N := N) P f0 x y f2 f3 f4 f5 nl with ⟨h1, g⟩ | ⟨_, g⟩
        · omega
        · rw [r4 _ hx, obind_s, s4 _ hy, obind_s] at g
          have hb := hbd.1.symm.trans g
          have hrb : rbound (rBinds_ N) (rbound_ N k) (rmeets_ N) (rone_ N) N (.st [f0, .sl nl [x, y], f2, f3, f4, f5]) c = cnd (D.nl r) (some (D.sl true [])) (cnd (D.nl s) (some (D.sl true [])) (rbound_l3 (rBinds_ N) (rbound_ N k) (rmeets_ N) (rone_ N) N N (iadd IntKind.i64 (ilen (len (D.es (D.f c 0)))) (ilen (len (D.es (D.f c 1))))) 0 c (D.es r) (D.es s) (fun (o3' o5' : List D) => some (D.sl (empty o5') o5')) fun (o3' : List D) => some (D.sl false o3'))) := by
            unfold rbound
            rw [e0, e1, q4, show ieq 4 1 = false from rfl, cnd_f, show ieq 4 4 = true from rfl, cnd_t, rhead _ 2 2 rfl, obind_s, decide_eq_false (by simp), cnd_f, show inb 0 (len [x, y]) = true from rfl, cnd_t, show at_ [x, y] 0 = x from rfl, r1, obind_s, show ieq 4 2 = false from rfl, cnd_f, show ieq 4 3 = false from rfl, cnd_f, cnd_t, show inb 1 (len [x, y]) = true from rfl, cnd_t, show at_ [x, y] 1 = y from rfl, s1, obind_s]
          rw [hrb]
          rcases r2.fine r3 with ⟨rn, rd⟩ | ⟨b, rn, rd, hb1, hb2, hb3⟩
          · rw [rd] at hb
            rw [rn, cnd_t]
            have hb : some (bd N c (.st [f0, .sl nl [x, y], f2, f3, f4, f5])) = some (.sl true []) := hb
            exact ⟨_, rfl, by rw [Option.some.inj hb]; exact nil_Sm⟩
          rw [rn, cnd_f]
          rcases s2.fine s3 with ⟨sn, sd⟩ | ⟨b', sn, sd, hb1', hb2', hb3'⟩
          · rw [sn, cnd_t]
            have hb : some (bd N c (.st [f0, .sl nl [x, y], f2, f3, f4, f5])) = some (.sl true []) := by
              rw [hb, sd, rd]; rfl
            exact ⟨_, rfl, by rw [Option.some.inj hb]; exact nil_Sm⟩
          rw [sn, cnd_f]
          unfold kid2 at hb
          rw [rd, sd] at hb
          simp only [nl_sl, es_sl, cnd_f] at hb
          have hB1 : (trs b').length = b.length := by rw [trs_len]; omega
          obtain ⟨z, o, g1, g2, g3⟩ := join_l2_val (N := N) (Gb := binds_ N) (X := fun _ _ => none) (Ge := edge_ N) (Gm := meetB_ N) (a := ctx c) (n0 := (c.f 0).es.length) rfl (l := b) (by omega) hB1 (k := fun (t13' : Bool) (o9' : List D) => cnd (bno t13') (some (D.sl true [])) (some (D.sl false o9'))) N 0 b' true
            ((Mk.refl _).iff fun i _ => ⟨fun h => h.imp id False.elim, fun h => h.imp id fun h => by omega⟩) (Nat.zero_le _) (by omega)
          have hb := hb.trans g1
          have hw : iadd IntKind.i64 (ilen (len (D.es (D.f c 0)))) (ilen (len (D.es (D.f c 1)))) = (((c.f 0).es.length + (c.f 1).es.length : Nat) : Int) := by
            unfold ilen len; rw [iadd_in (by omega)]; omega
          rw [hw]
          rcases rjoin_val hN (Gi := rBinds_ N) (X := rbound_ N k) (Gm := rmeets_ N) (Go := rone_ N) (c := c) (o4 := s.es) (w := (c.f 0).es.length + (c.f 1).es.length) (by omega) (by omega) (B := trs r.es) (by rw [trs_len]; omega) (k0 := fun (o3' o5' : List D) => some (D.sl (empty o5') o5')) (k1 := fun (o3' : List D) => some (D.sl false o3')) N 0 r.es
              ((Mk.refl _).iff fun i _ => ⟨fun h => h.imp id False.elim, fun h => h.imp id fun h => by omega⟩) (Nat.zero_le _) (by omega) with ⟨o', t1, t2⟩ | ⟨o', t1, t2, t3⟩
          · refine ⟨_, t1, ?_⟩
            have hz : z = false := by
              cases z with
              | false => rfl
              | true =>
                have := (g3.1 rfl).2
                exact absurd (fun j j1 j2 j3 h => this j j1 j2 (by omega) ⟨by rw [← hb3]; exact h.1, by rw [← hb3']; exact h.2⟩) t2
            rw [hz] at hb
            have hb : some (bd N c (.st [f0, .sl nl [x, y], f2, f3, f4, f5])) = some (.sl true []) := hb
            rw [Option.some.inj hb]
            exact nil_Sm
          · refine ⟨_, t1, ?_⟩
            have hz : z = true := g3.2 ⟨rfl, fun j j1 j2 j3 h => t3 j j1 j2 (by omega) ⟨by rw [hb3]; exact h.1, by rw [hb3']; exact h.2⟩⟩
            rw [hz] at hb
            have hb : some (bd N c (.st [f0, .sl nl [x, y], f2, f3, f4, f5])) = some (.sl false o) := hb
            rw [Option.some.inj hb]
            refine ⟨rfl, ?_⟩
            simp only [es_sl]
            have m1 : Mk (trs b') (trs o') (fun x => (trs b).getD x false = true) := by
              refine ⟨by rw [t2.len, trs_len, trs_len]; omega, fun i hi => ?_⟩
              rw [t2.is i (by rw [trs_len] at hi ⊢; omega), hb3, hb3']
              exact or_comm
            exact m1.same g2
    -- one kid
    have hr : ¬ (1 ≤ f0.n ∧ f0.n ≤ 6 ∧ ks.length = 1) → rbound (rBinds_ N) (rbound_ N k) (rmeets_ N) (rone_ N) N (.st [f0, .sl nl ks, f2, f3, f4, f5]) c = some (.sl true []) := fun h2 => by
      unfold rbound
      rw [e0, e1, ieq_no q1, cnd_f, ieq_no q4, cnd_f, rhead _ 1 1 rfl, obind_s, decide_eq_true h2, cnd_t]
    match ks, hks, hbd, hr, bad, kid, hs with
    | [], hks, hbd, hr, bad, kid, hs =>
      refine bad (fun j => ?_) (hr (by simp))
      rcases bound0_is (Gb := binds_ N) (X := bound_ N j) (Y := bound_ N j) (Ge := edge_ N) (Gm := meetB_ N) (N := N) P f0 f2 f3 f4 f5 nl with ⟨_, g⟩ | ⟨h1, _⟩
      · exact g
      · omega
    | [x, y], hks, hbd, hr, bad, kid, hs =>
      refine bad (fun j => ?_) (hr (by simp))
      rcases bound2_is (Gb := binds_ N) (X := bound_ N j) (Ge := edge_ N) (Gm := meetB_ N) (N := N) P f0 x y f2 f3 f4 f5 nl with ⟨_, g⟩ | ⟨h1, g⟩
      · exact g
      · omega
    | x :: y :: z :: l, hks, hbd, hr, bad, kid, hs =>
      exact bad (fun j => boundG_is (Gb := binds_ N) (X := bound_ N j) (Ge := edge_ N) (Gm := meetB_ N) (N := N) (ctx c) (.st [f0, .sl nl (x :: y :: z :: l), f2, f3, f4, f5]) (by show 3 ≤ (x :: y :: z :: l).length; simp)) (hr (by simp))
    | [x], hks, hbd, hr, bad, kid, hs =>
      obtain ⟨r, r1, r2, r3, r4⟩ := kid x (by simp)
      have hx := sz_sub (f0 := f0) (f2 := f2) (f3 := f3) (f4 := f4) (f5 := f5) (nl := nl) (List.mem_singleton.2 rfl : x ∈ [x])
      by_cases qo : f0.n ≠ 2 ∧ f0.n ≠ 3 ∧ f0.n ≠ 5 ∧ f0.n ≠ 6
      · refine bad (fun j => ?_) (hr (by omega))
        rcases bound1_is (Gb := binds_ N) (X := bound_ N j) (Ge := edge_ N) (Gm := meetB_ N) (N := N) P f0 x f2 f3 f4 f5 nl with ⟨_, g⟩ | ⟨h1, g⟩
        · exact g
        · omega
      rcases bound1_is (Gb := binds_ N) (X := bound_ N (sz (.st [f0, .sl nl [x], f2, f3, f4, f5]))) (Ge := edge_ N) (Gm := meetB_ N) (N := N) P f0 x f2 f3 f4 f5 nl with ⟨h1, g⟩ | ⟨_, g⟩
      · omega
      rw [r4 _ hx, obind_s] at g
      have hb := hbd.1.symm.trans g
      generalize hpp : (D.st [f0, .sl nl [x], f2, f3, f4, f5]) = p at *
      have hrb : rbound (rBinds_ N) (rbound_ N k) (rmeets_ N) (rone_ N) N p c = cnd (D.nl r) (some (D.sl true []))
          (cnd (ieq f0.n 2) (obind (rone_ N p c (D.sl false (D.es r))) fun (d_1 : D) => cnd (ilt (D.n d_1) 0) (some (D.sl true [])) (cnd (inb (iadd IntKind.i64 (ilen (len (D.es (D.f c 0)))) (D.n d_1)) (len (D.es r))) (cnd (inb (D.n d_1) (len (D.es (D.f c 1)))) (cnd (inb (D.n (D.f (at_ (D.es (D.f c 1)) (tn (D.n d_1))) 2)) (len (put (D.es r) (tn (iadd IntKind.i64 (ilen (len (D.es (D.f c 0)))) (D.n d_1))) (D.bool true)))) (cnd (inb (D.n d_1) (len (D.es (D.f c 1)))) (cnd (inb (D.n (D.f (at_ (D.es (D.f c 1)) (tn (D.n d_1))) 3)) (len (put (put (D.es r) (tn (iadd IntKind.i64 (ilen (len (D.es (D.f c 0)))) (D.n d_1))) (D.bool true)) (tn (D.n (D.f (at_ (D.es (D.f c 1)) (tn (D.n d_1))) 2))) (D.bool true)))) (some (D.sl false (put (put (put (D.es r) (tn (iadd IntKind.i64 (ilen (len (D.es (D.f c 0)))) (D.n d_1))) (D.bool true)) (tn (D.n (D.f (at_ (D.es (D.f c 1)) (tn (D.n d_1))) 2))) (D.bool true)) (tn (D.n (D.f (at_ (D.es (D.f c 1)) (tn (D.n d_1))) 3))) (D.bool true)))) none) none) none) none) none))
            (cnd (ieq f0.n 3) (obind (rone_ N p c (D.sl false (D.es r))) fun (d_1 : D) => cnd (ilt (D.n d_1) 0) (some (D.sl true [])) (cnd (inb (iadd IntKind.i64 (ilen (len (D.es (D.f c 0)))) (D.n d_1)) (len (D.es r))) (cnd (inb (D.n d_1) (len (D.es (D.f c 1)))) (cnd (inb (D.n (D.f (at_ (D.es (D.f c 1)) (tn (D.n d_1))) 2)) (len (put (D.es r) (tn (iadd IntKind.i64 (ilen (len (D.es (D.f c 0)))) (D.n d_1))) (D.bool true)))) (cnd (inb (D.n d_1) (len (D.es (D.f c 1)))) (cnd (inb (D.n (D.f (at_ (D.es (D.f c 1)) (tn (D.n d_1))) 3)) (len (put (put (D.es r) (tn (iadd IntKind.i64 (ilen (len (D.es (D.f c 0)))) (D.n d_1))) (D.bool true)) (tn (D.n (D.f (at_ (D.es (D.f c 1)) (tn (D.n d_1))) 2))) (D.bool true)))) (some (D.sl false (put (put (put (D.es r) (tn (iadd IntKind.i64 (ilen (len (D.es (D.f c 0)))) (D.n d_1))) (D.bool true)) (tn (D.n (D.f (at_ (D.es (D.f c 1)) (tn (D.n d_1))) 2))) (D.bool true)) (tn (D.n (D.f (at_ (D.es (D.f c 1)) (tn (D.n d_1))) 3))) (D.bool true)))) none) none) none) none) none))
              (cnd (ieq f0.n 5) (obind (rmeets_ N p c (D.sl false (D.es r))) fun (d_1 : D) => cnd (bno (D.b d_1)) (some (D.sl true [])) (cnd (inb (D.n f2) (len (D.es r))) (rbound_l10 (rBinds_ N) (rbound_ N k) (rmeets_ N) (rone_ N) N N 0 p c (put (D.es r) (tn (D.n f2)) (D.bool true)) fun (o3' : List D) => some (D.sl false o3')) none))
                (rbound_l11 (rBinds_ N) (rbound_ N k) (rmeets_ N) (rone_ N) N N 0 p (D.es r) (fun (o4' : List D) => some (D.sl (empty o4') o4')) (some (D.sl false (D.es r))))))) := by
        unfold rbound
        have hh : decide (¬ (1 ≤ f0.n ∧ f0.n ≤ 6 ∧ [x].length = 1)) = false := decide_eq_false (by simp; omega)
        rw [e0, e1, e2, ieq_no q1, cnd_f, ieq_no q4, cnd_f, rhead _ 1 1 rfl, obind_s, hh, cnd_f, show inb 0 (len [x]) = true from rfl, cnd_t, show at_ [x] 0 = x from rfl, r1, obind_s]
        rcases (by omega : f0.n = 2 ∨ f0.n = 3 ∨ f0.n = 5 ∨ f0.n = 6) with h | h | h | h
        · rw [h]; rfl
        · rw [h]; rfl
        · rw [h]; rfl
        · rw [h]; rfl
      rw [hrb]
      rcases r2.fine r3 with ⟨rn, rd⟩ | ⟨b, rn, rd, hb1, hb2, hb3⟩
      · rw [rn, cnd_t]
        rw [rd] at hb
        have hb : some (bd N c p) = some (.sl true []) := hb
        exact ⟨_, rfl, by rw [Option.some.inj hb]; exact nil_Sm⟩
      rw [rn, cnd_f]
      rw [rd] at hb
      unfold kid1 at hb
      simp only [nl_sl, es_sl, cnd_f] at hb
      rw [e0] at hb
      -- the same question asked of other truths
      have hEdge : (f0.n = 2 ∨ f0.n = 3) → (obind (edge_ N (ctx c) p (.sl false b)) fun (d : D) => cnd (bno (D.b (D.f d 0))) (some (D.sl true [])) (some (D.sl false (D.es (D.f d 1))))) = some (bd N c p) := fun h => by
        rw [hb, ieq_no (show ¬ f0.n = 5 by omega), cnd_f, ieq_no (show ¬ f0.n = 6 by omega), cnd_f]
      have hTwo : (f0.n = 2 ∨ f0.n = 3) → ∃ d, (obind (edge_ N (ctx c) p (.sl false r.es)) fun (d : D) => cnd (bno (D.b (D.f d 0))) (some (D.sl true [])) (some (D.sl false (D.es (D.f d 1))))) = some d ∧ Sm d (bd N c p) := fun h => by
        have h1 := hEdge h
        obtain ⟨v, l, a1, a2, a3⟩ := edge_val (N := N) P p false b hb1
        obtain ⟨v', l', a1', a2', a3'⟩ := edge_val (N := N) P p false r.es (by omega)
        rw [a1, obind_s, st_0, st_1, b_bool] at h1
        rw [a1', obind_s, st_0, st_1, b_bool]
        rw [hb3] at a2' a3'
        cases v with
        | true =>
          have hv : v' = true := a2'.2 (a2.1 rfl)
          subst hv
          have h1 : some (D.sl false l) = some (bd N c p) := h1
          refine ⟨_, rfl, ?_⟩
          rw [← Option.some.inj h1]
          exact ⟨rfl, (a3' rfl).same (a3 rfl)⟩
        | false =>
          have hv : v' = false := by
            cases v' with
            | false => rfl
            | true => have := a2.2 (a2'.1 rfl); cases this
          subst hv
          have h1 : some (D.sl true []) = some (bd N c p) := h1
          refine ⟨_, rfl, ?_⟩
          rw [← Option.some.inj h1]
          exact nil_Sm
      by_cases h2 : f0.n = 2 ∨ f0.n = 3
      · obtain ⟨d, d1, d2⟩ := hTwo h2
        obtain ⟨rr, t1, t2⟩ := rstep_val (N := N) P p r.es (by omega)
        have hfin := t2 d d1
        refine ⟨rr, ?_, hfin.1.trans d2.1, hfin.2.trans d2.2⟩
        rcases h2 with h | h
        · rw [h, show ieq 2 2 = true from rfl, cnd_t]; exact t1
        · rw [h, show ieq 3 2 = false from rfl, cnd_f, show ieq 3 3 = true from rfl, cnd_t]; exact t1
      rw [ieq_no (show ¬ f0.n = 2 by omega), cnd_f, ieq_no (show ¬ f0.n = 3 by omega), cnd_f]
      by_cases h5 : f0.n = 5
      · rw [ieq_in h5, cnd_t] at hb ⊢
        obtain ⟨v, l, a1, a2, a3⟩ := meetB_val hN P p hs false b hb1
        obtain ⟨v', a1', a2'⟩ := rmeets_val hN P p hs false r.es (by omega)
        rw [a1, obind_s, st_0, st_1, b_bool] at hb
        rw [a1', obind_s, b_bool]
        rw [hb3] at a2'
        cases v with
        | true =>
          have hv : v' = true := a2'.2 (a2.1 rfl)
          subst hv
          have hmo := a2.1 rfl
          have hb : some (bd N c p) = some (D.sl false l) := hb
          have hlo := hmo.lo
          have hhi := hmo.hi
          rw [e2] at hlo hhi
          rw [bno_t, cnd_f, inb_in (by unfold len; omega), cnd_t]
          obtain ⟨o', t1, t2⟩ := rmark_val (N := N) (Gi := rBinds_ N) (X := rbound_ N k) (Gm := rmeets_ N) (Go := rone_ N) (p := p) P (B := trs b) (by rw [trs_len]; exact hb1) (S := fun i => i = tn f2.n) (by rw [e3]; omega) (fun j hj => ⟨(hmo.fit j hj).lo, (hmo.fit j hj).hi⟩) (k := fun (o3' : List D) => some (D.sl false o3')) N 0 (put r.es (tn f2.n) (.bool true))
            (by rw [trs_put, hb3]; exact ((Mk.refl _).set _).iff fun i _ => ⟨fun h => h.imp id fun h => .inl (h.resolve_left id), fun h => h.imp id fun h => .inr (h.resolve_right fun ⟨j, hj, _⟩ => by omega)⟩) (Nat.zero_le _) (by rw [e3]; omega)
          refine ⟨_, t1, ?_⟩
          rw [Option.some.inj hb]
          refine ⟨rfl, ?_⟩
          simp only [es_sl]
          exact (t2.iff fun i _ => ⟨fun h => h.imp id fun h => (show _ ∨ i = tn (p.f 2).n from h.symm.imp id fun h => by rw [e2]; exact h), fun h => h.imp id fun h => h.symm.imp (fun h => by rw [e2] at h; exact h) id⟩).same (a3 rfl)
        | false =>
          have hv : v' = false := by
            cases v' with
            | false => rfl
            | true => have := a2.2 (a2'.1 rfl); cases this
          subst hv
          have hb : some (bd N c p) = some (D.sl true []) := hb
          refine ⟨_, rfl, ?_⟩
          rw [Option.some.inj hb]
          exact nil_Sm
      · have h6 : f0.n = 6 := by omega
        rw [ieq_no h5, cnd_f] at hb ⊢
        rw [ieq_in h6, cnd_t, filt_is hN p hs (hk0 := fun j => by rw [ile_in (by omega)]; rfl) (hk1 := rfl)] at hb
        rw [rfilt_val hN p hs]
        have hall := bnds_Sm hN hb3 (p.f 5).es (by rw [e5]; omega)
        rw [hall]
        cases hq : (p.f 5).es.all (bnds N b) with
        | true =>
          rw [if_pos rfl]
          rw [hq, if_pos rfl] at hb
          refine ⟨_, rfl, ?_⟩
          rw [Option.some.inj hb]
          exact ⟨rfl, hb3⟩
        | false =>
          rw [if_neg (by simp)]
          rw [hq, if_neg (by simp)] at hb
          refine ⟨_, rfl, ?_⟩
          rw [Option.some.inj hb]
          exact nil_Sm
end Go.Ev.S
