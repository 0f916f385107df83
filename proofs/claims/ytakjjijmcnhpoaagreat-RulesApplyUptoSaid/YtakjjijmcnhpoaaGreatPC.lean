/- The plain laws: the slots of a term, as the program finds them and as the document does. The plain laws: terms that are bound, terms that cannot fail, patterns: as the program tells them and as the document does. -/
import Derived.Test.YtakjjijmcnhpoaaGreatPB
namespace Go.Ev.S
open Go Go.Ev
set_option linter.unusedVariables false
variable {N : Nat}

/-- Is a number among those of a list? -/
def Has (l : List D) (s : Int) : Prop := ∃ x ∈ l, x.n = s
theorem Has.nil {s : Int} : Has [] s ↔ False := ⟨fun ⟨x, h, _⟩ => by simp at h, False.elim⟩
theorem Has.app {a b : List D} {s : Int} : Has (a ++ b) s ↔ Has a s ∨ Has b s := by
  constructor
  · rintro ⟨x, h, e⟩
    rcases List.mem_append.1 h with h | h
    · exact .inl ⟨x, h, e⟩
    · exact .inr ⟨x, h, e⟩
  · rintro (⟨x, h, e⟩ | ⟨x, h, e⟩)
    · exact ⟨x, List.mem_append_left _ h, e⟩
    · exact ⟨x, List.mem_append_right _ h, e⟩
theorem Has.one {x : D} {s : Int} : Has [x] s ↔ x.n = s := ⟨fun ⟨y, h, e⟩ => by rw [List.mem_singleton.1 h] at e; exact e, fun e => ⟨x, List.mem_singleton.2 rfl, e⟩⟩
theorem Has.cons {x : D} {l : List D} {s : Int} : Has (x :: l) s ↔ x.n = s ∨ Has l s := by
  rw [show x :: l = [x] ++ l from rfl, Has.app, Has.one]

/-- A term's slots. -/
inductive Sl : D → Int → Prop
  | own {t : D} (h : (t.f 0).n = 2 ∨ (t.f 0).n = 3) : Sl t (t.f 2).n
  | kid {t k : D} {s : Int} (hk : k ∈ (t.f 1).es) (h : Sl k s) : Sl t s
theorem Sl.is {t : D} {s : Int} : Sl t s ↔ (((t.f 0).n = 2 ∨ (t.f 0).n = 3) ∧ (t.f 2).n = s) ∨ ∃ k ∈ (t.f 1).es, Sl k s := by
  constructor
  · rintro (h | ⟨hk, h⟩)
    · exact .inl ⟨h, rfl⟩
    · exact .inr ⟨_, hk, h⟩
  · rintro (⟨h, rfl⟩ | ⟨k, hk, h⟩)
    · exact .own h
    · exact .kid hk h

theorem drop_at {l : List D} {i : Nat} (h : i < l.length) : l.drop i = at_ l i :: l.drop (i + 1) := by
  rw [List.drop_eq_getElem_cons h]
  unfold at_
  rw [List.getD_eq_getElem?_getD, List.getElem?_eq_getElem h]
  rfl
theorem take_at {l : List D} {i : Nat} (h : i < l.length) : l.take (i + 1) = l.take i ++ [at_ l i] := by
  rw [List.take_add_one, List.getElem?_eq_getElem h]
  unfold at_
  rw [List.getD_eq_getElem?_getD, List.getElem?_eq_getElem h]
  rfl
theorem Has.last {l : List D} {i : Nat} (h : i < l.length) {s : Int} : Has (l.take (i + 1)) s ↔ Has (l.take i) s ∨ (at_ l i).n = s := by
  rw [take_at h, Has.app, Has.one]

theorem Slots_l0_mem {G GS : D → Option D} {R : Type} {z : Bool} {l : List D} {k : List D → Option R} (hll : l.length ≤ 16777216) (hG : ∀ x ∈ l, ∃ d, G x = some d ∧ d.es.length ≤ sz x ∧ ∀ s, Has d.es s ↔ Sl x s) : ∀ (n i : Nat) (o : List D), i ≤ l.length → l.length - i < n → o.length + szL (l.drop i) ≤ 16777216 →
    ∃ o' : List D, o'.length ≤ o.length + szL (l.drop i) ∧ (∀ s, Has o' s ↔ Has o s ∨ ∃ x ∈ l.drop i, Sl x s) ∧ Slots_l0 G GS N n z l (ilen (len l)) (i : Int) o k = k o'
  | 0, i, o, _, h, _ => by omega
  | n + 1, i, o, hi, h, hs => by
    by_cases e : i = l.length
    · subst e
      exact ⟨o, by omega, fun s => by simp, by simp only [Slots_l0, len_c, ilt_f, cnd_f]⟩
    · have hlt : i < l.length := by omega
      obtain ⟨d, h1, h2, h3⟩ := hG _ (at_mem hlt)
      have e1 := szL_drop hlt
      have hl := szL_len (l.drop i)
      rw [List.length_drop] at hl
      obtain ⟨o', g1, g3, g2⟩ := Slots_l0_mem hll hG n (i + 1) (o ++ d.es) (by omega) (by omega) (by rw [List.length_append]; omega)
      rw [List.length_append] at g1
      refine ⟨o', by omega, fun s => ?_, ?_⟩
      · rw [g3 s, Has.app, h3 s, drop_at hlt, or_assoc]
        simp only [List.mem_cons, exists_eq_or_imp]
      · simp only [Slots_l0, len_c, ilt_t hlt, cnd_t, inb_t hlt, tn_c, h1, obind_s, nadd_c]
        rw [room_in (by omega) (by omega), cnd_t, iadd_1 (by omega), app_c]
        exact g2

theorem Slots_l2_mem {G GS : D → Option D} {R : Type} {p : List D} {k : Int → List D → Option R} {a m : Nat} (L : List D) : ∀ (n t3 t5 : Nat) (o : List D), a + m = o.length → o.length = L.length → 1 ≤ t5 → t5 ≤ m → t3 + 1 ≤ a + t5 → m - t5 < n → o.length ≤ 16777216 →
    (∀ j, a + t5 ≤ j + 1 → at_ o j = at_ L j) → (∀ s, Has (o.take t3) s ↔ Has (L.take (a + t5)) s) →
    ∃ (i : Nat) (o' : List D), o'.length = o.length ∧ i ≤ o'.length ∧ (∀ s, Has (o'.take i) s ↔ Has L s) ∧ Slots_l2 G GS N n (t3 : Int) a m (t5 : Int) o p k = k (i : Int) o'
  | 0, t3, t5, o, _, _, _, _, _, h, _, _, _ => by omega
  | n + 1, t3, t5, o, ha, hL, h1, h2, h3, h, hs, ho, hh => by
    by_cases e : t5 = m
    · subst e
      exact ⟨t3, o, rfl, by omega, fun s => by rw [hh s, ha, hL, List.take_length], by simp only [Slots_l2, ilt_f, cnd_f]⟩
    · have hlt : t5 < m := by omega
      simp only [Slots_l2, ilt_t hlt, cnd_t, inb_t hlt, tn_c, isub_1 (show t5 < 2 ^ 62 by omega) h1, inb_t (show t5 - 1 < m by omega), len_c, inb_t (show t3 < o.length by omega), iadd_1 (show t5 < 2 ^ 62 by omega), iadd_1 (show t3 < 2 ^ 62 by omega)]
      have q1 : at_ o (nadd a t5) = at_ L (a + t5) := ho _ (by show a + t5 ≤ a + t5 + 1; omega)
      have q2 : at_ o (nadd a (t5 - 1)) = at_ L (a + t5 - 1) := by
        have := ho (a + (t5 - 1)) (by omega)
        rw [show a + t5 - 1 = a + (t5 - 1) by omega]; exact this
      have hlast : ∀ s, Has (L.take (a + t5 + 1)) s ↔ Has (L.take (a + t5)) s ∨ (at_ L (a + t5)).n = s := fun s => Has.last (by omega)
      cases hb : bno (ieq (D.n (at_ o (nadd a t5))) (D.n (at_ o (nadd a (t5 - 1))))) with
      | true =>
        rw [cnd_t]
        have hl : ∀ x, (put o t3 x).length = o.length := fun x => by simp [put]
        obtain ⟨i, o', g1, g2, g4, g3⟩ := Slots_l2_mem (G := G) (GS := GS) (p := p) (k := k) L n (t3 + 1) (t5 + 1) (put o t3 (D.int (D.n (at_ o (nadd a t5))))) (by rw [hl]; exact ha) (by rw [hl]; exact hL) (by omega) (by omega) (by omega) (by omega) (by rw [hl]; exact hs)
          (fun j hj => by rw [at_put_ne (by omega)]; exact ho j (by omega)) (fun s => by
            rw [Has.last (by rw [hl]; omega), show a + (t5 + 1) = a + t5 + 1 from rfl, hlast s, ← hh s]
            have e1 : (put o t3 (D.int (D.n (at_ o (nadd a t5))))).take t3 = o.take t3 := by
              unfold put; rw [List.take_set_of_le (Nat.le_refl _)]
            have e2 : at_ (put o t3 (D.int (D.n (at_ o (nadd a t5))))) t3 = D.int (D.n (at_ o (nadd a t5))) := by
              unfold at_ put
              rw [List.getD_eq_getElem?_getD, List.getElem?_set_self (by omega)]
              rfl
            rw [e1, e2, q1, n_int])
        exact ⟨i, o', by rw [g1, hl], g2, g4, g3⟩
      | false =>
        rw [cnd_f]
        refine Slots_l2_mem L n t3 (t5 + 1) o ha hL (by omega) (by omega) (by omega) (by omega) hs (fun j hj => ho j (by omega)) (fun s => ?_)
        have heq := ieq_is (bno_not hb)
        rw [q1, q2] at heq
        rw [show a + (t5 + 1) = a + t5 + 1 from rfl, hlast s, hh s]
        refine ⟨.inl, fun h => h.elim id fun h => ⟨at_ L (a + t5 - 1), ?_, by rw [← heq]; exact h⟩⟩
        have : (L.take (a + t5 - 1 + 1)) = L.take (a + t5 - 1) ++ [at_ L (a + t5 - 1)] := take_at (by omega)
        rw [show a + t5 - 1 + 1 = a + t5 by omega] at this
        rw [this]
        simp

theorem Slots_l1_mem {G GS : D → Option D} (hN : 16777217 ≤ N) {R : Type} {o p : List D} {k : Nat → Nat → List D → Option R} {k1 : Option R} (hs : o.length ≤ 16777216) : ∀ (n t3 : Nat), 1 ≤ t3 → t3 ≤ o.length → o.length - t3 < n →
    Slots_l1 G GS N n (t3 : Int) o p k k1 = k1 ∨ ∃ (a m : Nat) (o' : List D), o'.length = o.length ∧ (∀ s, Has (cut o' a m) s ↔ Has o s) ∧ Slots_l1 G GS N n (t3 : Int) o p k k1 = k a m o'
  | 0, t3, _, _, h => by omega
  | n + 1, t3, h1, h2, h => by
    by_cases e : t3 = o.length
    · subst e
      exact .inl (by simp only [Slots_l1, len_c, ilt_f, cnd_f])
    · have hlt : t3 < o.length := by omega
      simp only [Slots_l1, len_c, ilt_t hlt, cnd_t, inb_t hlt, tn_c, isub_1 (show t3 < 2 ^ 62 by omega) h1, inb_t (show t3 - 1 < o.length by omega), iadd_1 (show t3 < 2 ^ 62 by omega)]
      cases hb : ieq (D.n (at_ o t3)) (D.n (at_ o (t3 - 1))) with
      | false => rw [cnd_f]; exact Slots_l1_mem hN hs n (t3 + 1) (by omega) (by omega) (by omega)
      | true =>
        have hc : inc (t3 : Int) (ilen o.length) o.length = true := inc_in (by unfold ilen; omega)
        rw [cnd_t, hc, cnd_t]
        right
        obtain ⟨i, o', g1, g2, g4, g3⟩ := Slots_l2_mem (G := G) (GS := GS) (N := N) (p := p) (k := fun (t3' : Int) (o2' : List D) => cnd (inc t3' (ilen (len o2')) (len o2')) (cnd (inc 0 t3' (len (app (cut o2' 0 (tn t3')) (app (reps (nsub (len o2') (tn t3')) (D.int 0)) (cut o2' (nadd (tn t3') (nsub (len o2') (tn t3'))) (len o2')))))) (k 0 (nsub (tn t3') 0) (app (cut o2' 0 (tn t3')) (app (reps (nsub (len o2') (tn t3')) (D.int 0)) (cut o2' (nadd (tn t3') (nsub (len o2') (tn t3'))) (len o2'))))) none) none) (a := t3) (m := o.length - t3) o N t3 1 o (by omega) rfl (Nat.le_refl _) (by omega) (by omega) (by omega) hs
          (fun _ _ => rfl) (fun s => by
            rw [Has.last hlt]
            refine ⟨.inl, fun h => h.elim id fun h => ⟨at_ o (t3 - 1), ?_, by rw [← ieq_is hb]; exact h⟩⟩
            have := take_at (l := o) (i := t3 - 1) (by omega)
            rw [show t3 - 1 + 1 = t3 by omega] at this
            rw [this]
            simp)
        refine ⟨0, i - 0, app (cut o' 0 i) (app (reps (nsub o'.length i) (D.int 0)) (cut o' (nadd i (nsub o'.length i)) o'.length)), ?_, fun s => ?_, ?_⟩
        · simp only [app, cut, reps, nsub, nadd, List.length_append, List.length_take, List.length_drop, List.length_replicate]; omega
        · rw [← g4 s]
          have : cut (app (cut o' 0 i) (app (reps (nsub o'.length i) (D.int 0)) (cut o' (nadd i (nsub o'.length i)) o'.length))) 0 (i - 0) = o'.take i := by
            simp only [cut, app, List.drop_zero, Nat.sub_zero]
            rw [List.take_append_of_le_length (by rw [List.length_take]; omega), List.take_take, Nat.min_self]
          rw [this]
        · refine g3.trans ?_
          have hc : inc (i : Int) (ilen o'.length) o'.length = true := inc_in (by unfold ilen; omega)
          simp only [len_c, tn_c, hc, cnd_t]
          rw [show inc 0 (i : Int) _ = true from ?_, cnd_t]
          · rfl
          · refine inc_in ?_; simp only [app, cut, reps, nsub, nadd, List.length_append, List.length_take, List.length_drop, List.length_replicate]; omega

theorem Sort_mem (N : Nat) (z : Bool) (l : List D) (h : l.length ≤ 16777216) : ∃ d, Sort_ N (.sl z l) = some d ∧ (d.f 0).es.length = l.length ∧ ∀ s, Has (d.f 0).es s ↔ Has l s := by
  refine ⟨_, by unfold Sort_; rw [show decide ((D.sl z l).es.length < 4611686018427387904) = true from decide_eq_true (by show l.length < _; omega), cnd_t], ?_, fun s => ?_⟩
  · simp [D.f, D.es, sortL_len]
  · show Has ((sortL l).map D.int) s ↔ _
    constructor
    · rintro ⟨x, hx, e⟩
      obtain ⟨i, hi, rfl⟩ := List.mem_map.1 hx
      have hi : i ∈ (l.map D.n) := (List.mem_mergeSort (l := l.map D.n)).1 hi
      obtain ⟨y, hy, rfl⟩ := List.mem_map.1 hi
      exact ⟨y, hy, e⟩
    · rintro ⟨x, hx, rfl⟩
      exact ⟨.int x.n, List.mem_map.2 ⟨x.n, (List.mem_mergeSort (l := l.map D.n)).2 (List.mem_map.2 ⟨x, hx, rfl⟩), rfl⟩, rfl⟩

theorem Slots_endm {G : D → Option D} (hN : 16777217 ≤ N) (o : List D) (h : o.length ≤ 16777216) :
    ∃ r, (obind (Sort_ N (D.sl (empty o) o)) fun (d : D) => cnd (ilt (ilen (len (D.es (D.f d 0)))) 2) (some (D.sl (empty (D.es (D.f d 0))) (D.es (D.f d 0)))) (Slots_l1 G (Sort_ N) N N 1 (D.es (D.f d 0)) [] (fun (t2l' t2n' : Nat) (o2' : List D) => some (D.sl (empty o2') (cut o2' t2l' t2n'))) (some (D.sl (empty (D.es (D.f d 0))) (D.es (D.f d 0)))))) = some r ∧ r.es.length ≤ o.length ∧ ∀ s, Has r.es s ↔ Has o s := by
  obtain ⟨d, h1, h2, h3⟩ := Sort_mem N (empty o) o h
  rw [h1, obind_s]
  by_cases hl : (d.f 0).es.length < 2
  · rw [show ilt (ilen (len (d.f 0).es)) 2 = true from ilt_in (by unfold ilen len; omega), cnd_t]
    exact ⟨_, rfl, by simp only [D.es]; exact Nat.le_of_eq h2, h3⟩
  · rw [show ilt (ilen (len (d.f 0).es)) 2 = false from ilt_no (by unfold ilen len; omega), cnd_f]
    rcases Slots_l1_mem (G := G) (GS := Sort_ N) (N := N) hN (o := (d.f 0).es) (p := []) (k := fun (t2l' t2n' : Nat) (o2' : List D) => some (D.sl (empty o2') (cut o2' t2l' t2n'))) (k1 := some (D.sl (empty (D.es (D.f d 0))) (D.es (D.f d 0)))) (by omega) N 1 (Nat.le_refl _) (by omega) (by omega) with g | ⟨a, m, o', g1, g3, g2⟩
    · exact ⟨_, g, by simp only [D.es]; exact Nat.le_of_eq h2, h3⟩
    · exact ⟨_, g2, by simp only [D.es]; have := cut_len o' a m; omega, fun s => (g3 s).trans (h3 s)⟩

theorem Slots_mem (hN : 16777217 ≤ N) : ∀ (k : Nat) (a : D), sz a < k → sz a ≤ 16777216 → ∃ d, Slots_ N k a = some d ∧ d.es.length ≤ sz a ∧ ∀ s, Has d.es s ↔ Sl a s
  | 0, a, h, _ => by omega
  | k + 1, a, h, hs => by
    have hk := sz_kids a 1
    have hG : ∀ x ∈ (a.f 1).es, ∃ d, Slots_ N k x = some d ∧ d.es.length ≤ sz x ∧ ∀ s, Has d.es s ↔ Sl x s := fun x hx => by
      have := sz_kid hx
      exact Slots_mem hN k x (by omega) (by omega)
    have hl := szL_len (a.f 1).es
    have e : Slots_ N (k + 1) a = Slots (Slots_ N k) (Sort_ N) N a := rfl
    rw [e]
    unfold Slots
    have hb : (cnd (ieq (D.n (D.f a 0)) 2) (some true) (some (ieq (D.n (D.f a 0)) 3))) = some (ieq (D.n (D.f a 0)) 2 || ieq (D.n (D.f a 0)) 3) := by
      cases ieq (D.n (D.f a 0)) 2 <;> rfl
    rw [hb, obind_s]
    cases hb : (ieq (D.n (D.f a 0)) 2 || ieq (D.n (D.f a 0)) 3) with
    | true =>
      rw [cnd_t]
      obtain ⟨o, g1, g5, g2⟩ := Slots_l0_mem (GS := Sort_ N) (N := N) (z := (a.f 1).nl) (k := fun (o2' : List D) => obind (Sort_ N (D.sl (empty o2') o2')) fun (d : D) => cnd (ilt (ilen (len (D.es (D.f d 0)))) 2) (some (D.sl (empty (D.es (D.f d 0))) (D.es (D.f d 0)))) (Slots_l1 (Slots_ N k) (Sort_ N) N N 1 (D.es (D.f d 0)) [] (fun (t2l' t2n' : Nat) (o2' : List D) => some (D.sl (empty o2') (cut o2' t2l' t2n'))) (some (D.sl (empty (D.es (D.f d 0))) (D.es (D.f d 0)))))) (by omega) hG N 0 [D.int (D.n (D.f a 2))] (Nat.zero_le _) (by omega) (by simp only [List.length_singleton, List.drop_zero]; omega)
      simp only [List.length_singleton, List.drop_zero] at g1 g5
      obtain ⟨r, g3, g4, g6⟩ := Slots_endm (G := Slots_ N k) hN o (by omega)
      refine ⟨r, g2.trans g3, by omega, fun s => ?_⟩
      rw [g6 s, g5 s, Sl.is, Has.one]
      have : (a.f 0).n = 2 ∨ (a.f 0).n = 3 := by
        rw [Bool.or_eq_true] at hb
        exact hb.imp ieq_is ieq_is
      rw [n_int]
      exact ⟨fun h => h.imp (fun h => ⟨this, h⟩) id, fun h => h.imp (fun h => h.2) id⟩
    | false =>
      rw [cnd_f]
      simp only [l3_l0, l4_l1]
      obtain ⟨o, g1, g5, g2⟩ := Slots_l0_mem (GS := Sort_ N) (N := N) (z := (a.f 1).nl) (k := fun (o2' : List D) => obind (Sort_ N (D.sl (empty o2') o2')) fun (d : D) => cnd (ilt (ilen (len (D.es (D.f d 0)))) 2) (some (D.sl (empty (D.es (D.f d 0))) (D.es (D.f d 0)))) (Slots_l1 (Slots_ N k) (Sort_ N) N N 1 (D.es (D.f d 0)) [] (fun (t2l' t2n' : Nat) (o2' : List D) => some (D.sl (empty o2') (cut o2' t2l' t2n'))) (some (D.sl (empty (D.es (D.f d 0))) (D.es (D.f d 0)))))) (by omega) hG N 0 [] (Nat.zero_le _) (by omega) (by simp only [List.length_nil, List.drop_zero]; omega)
      simp only [List.length_nil, List.drop_zero] at g1 g5
      obtain ⟨r, g3, g4, g6⟩ := Slots_endm (G := Slots_ N k) hN o (by omega)
      refine ⟨r, g2.trans g3, by omega, fun s => ?_⟩
      rw [g6 s, g5 s, Sl.is, Has.nil]
      rw [Bool.or_eq_false_iff] at hb
      have h1 := ieq_not hb.1
      have h2 := ieq_not hb.2
      exact ⟨fun h => h.elim False.elim .inr, fun h => h.elim (fun h => h.1.elim (fun h => absurd h h1) (fun h => absurd h h2)) .inr⟩

/-! ### The document's -/
theorem cut_1 (x : D) (l : List D) : cut (x :: l) 1 (nsub (len (x :: l)) 1) = l := by
  show List.take (l.length + 1 - 1) l = l
  rw [Nat.add_sub_cancel, List.take_length]

theorem last_has {o : List D} (h : o ≠ []) (hl : o.length ≤ 16777216) : isub IntKind.i64 (ilen (len o)) 1 = ((o.length - 1 : Nat) : Int) ∧ o.length - 1 < o.length := by
  have := List.length_pos_iff.2 h
  exact ⟨isub_1 (i := o.length) (by omega) (by omega), by omega⟩

/-- One more, if it is not the last one again. -/
theorem snoc_has {o : List D} {x : D} (hl : o.length ≤ 16777216) : ∃ b, (cnd (ieq (ilen (len o)) 0) (some true) (cnd (inb (isub IntKind.i64 (ilen (len o)) 1) (len o)) (some (bno (ieq (D.n (at_ o (tn (isub IntKind.i64 (ilen (len o)) 1)))) (D.n x)))) none)) = some b ∧ (b = false → Has o x.n) := by
  by_cases h : o = []
  · subst h; exact ⟨true, rfl, fun h => by cases h⟩
  · have hp := List.length_pos_iff.2 h
    obtain ⟨e1, e2⟩ := last_has h hl
    rw [ieq_no (by unfold ilen len; omega), cnd_f, e1, len_c, inb_t e2, cnd_t, tn_c]
    refine ⟨_, rfl, fun hb => ⟨_, at_mem e2, ieq_is (bno_not hb)⟩⟩

theorem Union_l0_mem {R : Type} {k : List D → Option R} : ∀ (n : Nat) (z1 z2 : Bool) (a b o : List D), a.length + b.length < n → o.length + a.length + b.length ≤ 16777216 →
    ∃ o' : List D, o'.length ≤ o.length + a.length + b.length ∧ (∀ s, Has o' s ↔ Has o s ∨ Has a s ∨ Has b s) ∧ Union_l0 N n z1 a z2 b o k = k o'
  | 0, _, _, a, b, o, h, _ => by omega
  | n + 1, z1, z2, a, b, o, h, hs => by
    -- the two steps
    have stepA : ∀ (x : D) (l : List D), a = x :: l → ∃ o' : List D, o'.length ≤ o.length + a.length + b.length ∧ (∀ s, Has o' s ↔ Has o s ∨ Has a s ∨ Has b s) ∧
        (cnd (inb 0 (len a)) (cnd (inc 1 (ilen (len a)) (len a)) (obind (cnd (ieq (ilen (len o)) 0) (some true) (cnd (inb (isub IntKind.i64 (ilen (len o)) 1) (len o)) (some (bno (ieq (D.n (at_ o (tn (isub IntKind.i64 (ilen (len o)) 1)))) (D.n (at_ a 0))))) none)) fun (b_1 : Bool) => cnd b_1 (cnd (room (nadd (len o) 1) 8) (Union_l0 N n z1 (cut a 1 (nsub (len a) 1)) z2 b (app o [D.int (D.n (at_ a 0))]) k) none) (Union_l0 N n z1 (cut a 1 (nsub (len a) 1)) z2 b o k)) none) none) = k o' := fun x l e => by
      subst e
      have hlen : (x :: l).length = l.length + 1 := rfl
      obtain ⟨v, h1, h2⟩ := snoc_has (o := o) (x := x) (by omega)
      rw [show at_ (x :: l) 0 = x from rfl, h1, show inb 0 (len (x :: l)) = true from inb_in (by unfold len; omega), cnd_t, inc_in (by unfold ilen len; omega), cnd_t, obind_s, cut_1]
      cases v with
      | true =>
        obtain ⟨o', g1, g2, g3⟩ := Union_l0_mem n z1 z2 l b (o ++ [D.int x.n]) (by omega) (by simp; omega)
        refine ⟨o', by simp at g1; omega, fun s => ?_, ?_⟩
        · rw [g2 s, Has.app, Has.one, Has.cons, n_int]
          constructor
          · rintro ((h | h) | h | h)
            · exact .inl h
            · exact .inr (.inl (.inl h))
            · exact .inr (.inl (.inr h))
            · exact .inr (.inr h)
          · rintro (h | (h | h) | h)
            · exact .inl (.inl h)
            · exact .inl (.inr h)
            · exact .inr (.inl h)
            · exact .inr (.inr h)
        · rw [cnd_t, nadd_c, len_c, room_in (by omega) (by omega), cnd_t, app_c]; exact g3
      | false =>
        obtain ⟨o', g1, g2, g3⟩ := Union_l0_mem n z1 z2 l b o (by omega) (by omega)
        refine ⟨o', by omega, fun s => ?_, by rw [cnd_f]; exact g3⟩
        rw [g2 s, Has.cons]
        have h2 := h2 rfl
        constructor
        · rintro (h | h | h)
          · exact .inl h
          · exact .inr (.inl (.inr h))
          · exact .inr (.inr h)
        · rintro (h | (h | h) | h)
          · exact .inl h
          · exact .inl (h ▸ h2)
          · exact .inr (.inl h)
          · exact .inr (.inr h)
    have stepB : ∀ (x : D) (l : List D), b = x :: l → ∃ o' : List D, o'.length ≤ o.length + a.length + b.length ∧ (∀ s, Has o' s ↔ Has o s ∨ Has a s ∨ Has b s) ∧
        (cnd (inb 0 (len b)) (cnd (inc 1 (ilen (len b)) (len b)) (obind (cnd (ieq (ilen (len o)) 0) (some true) (cnd (inb (isub IntKind.i64 (ilen (len o)) 1) (len o)) (some (bno (ieq (D.n (at_ o (tn (isub IntKind.i64 (ilen (len o)) 1)))) (D.n (at_ b 0))))) none)) fun (b_1 : Bool) => cnd b_1 (cnd (room (nadd (len o) 1) 8) (Union_l0 N n z1 a z2 (cut b 1 (nsub (len b) 1)) (app o [D.int (D.n (at_ b 0))]) k) none) (Union_l0 N n z1 a z2 (cut b 1 (nsub (len b) 1)) o k)) none) none) = k o' := fun x l e => by
      subst e
      have hlen : (x :: l).length = l.length + 1 := rfl
      obtain ⟨v, h1, h2⟩ := snoc_has (o := o) (x := x) (by omega)
      rw [show at_ (x :: l) 0 = x from rfl, h1, show inb 0 (len (x :: l)) = true from inb_in (by unfold len; omega), cnd_t, inc_in (by unfold ilen len; omega), cnd_t, obind_s, cut_1]
      cases v with
      | true =>
        obtain ⟨o', g1, g2, g3⟩ := Union_l0_mem n z1 z2 a l (o ++ [D.int x.n]) (by omega) (by simp; omega)
        refine ⟨o', by simp at g1; omega, fun s => ?_, ?_⟩
        · rw [g2 s, Has.app, Has.one, Has.cons, n_int]
          constructor
          · rintro ((h | h) | h | h)
            · exact .inl h
            · exact .inr (.inr (.inl h))
            · exact .inr (.inl h)
            · exact .inr (.inr (.inr h))
          · rintro (h | h | h | h)
            · exact .inl (.inl h)
            · exact .inr (.inl h)
            · exact .inl (.inr h)
            · exact .inr (.inr h)
        · rw [cnd_t, nadd_c, len_c, room_in (by omega) (by omega), cnd_t, app_c]; exact g3
      | false =>
        obtain ⟨o', g1, g2, g3⟩ := Union_l0_mem n z1 z2 a l o (by omega) (by omega)
        refine ⟨o', by omega, fun s => ?_, by rw [cnd_f]; exact g3⟩
        rw [g2 s, Has.cons]
        have h2 := h2 rfl
        constructor
        · rintro (h | h | h)
          · exact .inl h
          · exact .inr (.inl h)
          · exact .inr (.inr (.inr h))
        · rintro (h | h | h | h)
          · exact .inl h
          · exact .inr (.inl h)
          · exact .inl (h ▸ h2)
          · exact .inr (.inr h)
    rw [Union_l0]
    match a, b, stepA, stepB with
    | [], [], _, _ => exact ⟨o, by simp, fun s => by simp [Has.nil], rfl⟩
    | x :: l, [], sA, _ =>
      obtain ⟨o', g1, g2, g3⟩ := sA x l rfl
      refine ⟨o', g1, g2, ?_⟩
      rw [show ilt 0 (ilen (len (x :: l))) = true from ilt_in (by show (0 : Int) < ((l.length + 1 : Nat) : Int); omega), cnd_t, obind_s, cnd_t, show ieq (ilen (len ([] : List D))) 0 = true from rfl, cnd_t, obind_s, cnd_t]
      exact g3
    | [], y :: m, _, sB =>
      obtain ⟨o', g1, g2, g3⟩ := sB y m rfl
      refine ⟨o', g1, g2, ?_⟩
      rw [show ilt 0 (ilen (len ([] : List D))) = false from rfl, show ilt 0 (ilen (len (y :: m))) = true from ilt_in (by show (0 : Int) < ((m.length + 1 : Nat) : Int); omega), show ieq (ilen (len (y :: m))) 0 = false from ieq_no (by show ¬ ((m.length + 1 : Nat) : Int) = 0; omega), cnd_f, obind_s, cnd_t, cnd_f, cnd_f, obind_s, cnd_f]
      exact g3
    | x :: l, y :: m, sA, sB =>
      rw [show ilt 0 (ilen (len (x :: l))) = true from ilt_in (by show (0 : Int) < ((l.length + 1 : Nat) : Int); omega), cnd_t, obind_s, cnd_t, show ieq (ilen (len (y :: m))) 0 = false from ieq_no (by show ¬ ((m.length + 1 : Nat) : Int) = 0; omega), cnd_f, cnd_t, show inb 0 (len (x :: l)) = true from inb_in (by show (0 : Int) ≤ 0 ∧ (0 : Int) < ((l.length + 1 : Nat) : Int); omega), show inb 0 (len (y :: m)) = true from inb_in (by show (0 : Int) ≤ 0 ∧ (0 : Int) < ((m.length + 1 : Nat) : Int); omega), cnd_t, cnd_t, obind_s]
      cases ile (D.n (at_ (x :: l) 0)) (D.n (at_ (y :: m) 0)) with
      | true =>
        obtain ⟨o', g1, g2, g3⟩ := sA x l rfl
        rw [show inb 0 (len (x :: l)) = true from inb_in (by show (0 : Int) ≤ 0 ∧ (0 : Int) < ((l.length + 1 : Nat) : Int); omega), cnd_t] at g3
        refine ⟨o', g1, g2, ?_⟩
        rw [cnd_t, cnd_t]; exact g3
      | false =>
        obtain ⟨o', g1, g2, g3⟩ := sB y m rfl
        rw [show inb 0 (len (y :: m)) = true from inb_in (by show (0 : Int) ≤ 0 ∧ (0 : Int) < ((m.length + 1 : Nat) : Int); omega), cnd_t] at g3
        refine ⟨o', g1, g2, ?_⟩
        rw [cnd_f, cnd_t]; exact g3

theorem Union_mem (a b : D) (h : a.es.length + b.es.length ≤ 16777216) (hN : 16777217 ≤ N) : ∃ d, Union_ N a b = some d ∧ d.es.length ≤ a.es.length + b.es.length ∧ ∀ s, Has d.es s ↔ Has a.es s ∨ Has b.es s := by
  obtain ⟨o, g1, g2, g3⟩ := Union_l0_mem (N := N) (k := fun (o1' : List D) => some (D.sl (empty o1') o1')) N a.nl b.nl a.es b.es [] (by omega) (by simp; omega)
  refine ⟨_, g3, by simp at g1; exact g1, fun s => ?_⟩
  rw [es_sl, g2 s, Has.nil]
  simp

theorem rl1_l0 (GU : D → D → Option D) (G : D → Option D) (N : Nat) {R : Type} : ∀ (n : Nat) z l t o (k : Bool → List D → Option R), rSlots_l1 GU G N n z l t o k = rSlots_l0 GU G N n z l t o k
  | 0, _, _, _, _, _ => rfl
  | n + 1, z, l, t, o, k => by simp only [rSlots_l1, rSlots_l0, rl1_l0 GU G N n]

theorem rSlots_l0_mem (hN : 16777217 ≤ N) {G : D → Option D} {R : Type} {o0 : D} {k : Bool → List D → Option R} (hll : (o0.f 1).es.length ≤ 16777216) (hG : ∀ x ∈ (o0.f 1).es, ∃ d, G x = some d ∧ d.es.length ≤ sz x ∧ ∀ s, Has d.es s ↔ Sl x s) : ∀ (n i : Nat) (z : Bool) (o : List D), i ≤ (o0.f 1).es.length → (o0.f 1).es.length - i < n → o.length + szL ((o0.f 1).es.drop i) ≤ 16777216 →
    ∃ (z' : Bool) (o' : List D), o'.length ≤ o.length + szL ((o0.f 1).es.drop i) ∧ (∀ s, Has o' s ↔ Has o s ∨ ∃ x ∈ (o0.f 1).es.drop i, Sl x s) ∧ rSlots_l0 (Union_ N) G N n z o (i : Int) o0 k = k z' o'
  | 0, i, z, o, _, h, _ => by omega
  | n + 1, i, z, o, hi, h, hs => by
    by_cases e : i = (o0.f 1).es.length
    · subst e
      exact ⟨z, o, by omega, fun s => by simp, by simp only [rSlots_l0, len_c, ilt_f, cnd_f]⟩
    · have hlt : i < (o0.f 1).es.length := by omega
      obtain ⟨d, h1, h2, h3⟩ := hG _ (at_mem hlt)
      have e1 := szL_drop hlt
      have hl := szL_len ((o0.f 1).es.drop i)
      rw [List.length_drop] at hl
      obtain ⟨u, u1, u2, u3⟩ := Union_mem (N := N) (D.sl z o) (D.sl d.nl d.es) (by simp only [es_sl]; omega) hN
      simp only [es_sl] at u2 u3
      obtain ⟨z', o', g1, g3, g2⟩ := rSlots_l0_mem hN (k := k) hll hG n (i + 1) u.nl u.es (by omega) (by omega) (by omega)
      refine ⟨z', o', by omega, fun s => ?_, ?_⟩
      · rw [g3 s, u3 s, h3 s, drop_at hlt, or_assoc]
        simp only [List.mem_cons, exists_eq_or_imp]
      · simp only [rSlots_l0, len_c, ilt_t hlt, cnd_t, inb_t hlt, tn_c, h1, obind_s, u1]
        rw [iadd_1 (by omega)]
        exact g2

theorem rSlots_mem (hN : 16777217 ≤ N) : ∀ (k : Nat) (a : D), sz a < k → sz a ≤ 16777216 → ∃ d, rSlots_ N k a = some d ∧ d.es.length ≤ sz a ∧ ∀ s, Has d.es s ↔ Sl a s
  | 0, a, h, _ => by omega
  | k + 1, a, h, hs => by
    have hk := sz_kids a 1
    have hG : ∀ x ∈ (a.f 1).es, ∃ d, rSlots_ N k x = some d ∧ d.es.length ≤ sz x ∧ ∀ s, Has d.es s ↔ Sl x s := fun x hx => by
      have := sz_kid hx
      exact rSlots_mem hN k x (by omega) (by omega)
    have hl := szL_len (a.f 1).es
    have e : rSlots_ N (k + 1) a = rSlots (Union_ N) (rSlots_ N k) N a := rfl
    rw [e]
    unfold rSlots
    have hb : (cnd (ieq (D.n (D.f a 0)) 2) (some true) (some (ieq (D.n (D.f a 0)) 3))) = some (ieq (D.n (D.f a 0)) 2 || ieq (D.n (D.f a 0)) 3) := by
      cases ieq (D.n (D.f a 0)) 2 <;> rfl
    rw [hb, obind_s]
    -- what is there before the kids
    have fin : ∀ (z : Bool) (o : List D), o.length ≤ 1 → (∀ s, Has o s ↔ ((a.f 0).n = 2 ∨ (a.f 0).n = 3) ∧ (a.f 2).n = s) → ∃ d, (cnd (ilt 0 (ilen (len (D.es (D.f a 1))))) (cnd (inb 0 (len (D.es (D.f a 1)))) (obind (rSlots_ N k (at_ (D.es (D.f a 1)) 0)) fun (d : D) => obind (Union_ N (D.sl z o) (D.sl (D.nl d) (D.es d))) fun (d : D) => rSlots_l0 (Union_ N) (rSlots_ N k) N N (D.nl d) (D.es d) 1 a fun (t3z' : Bool) (t3' : List D) => some (D.sl t3z' t3')) none) (some (D.sl z o))) = some d ∧ d.es.length ≤ sz a ∧ ∀ s, Has d.es s ↔ Sl a s := fun z o hz ho => by
      by_cases h0 : (a.f 1).es = []
      · rw [h0]
        refine ⟨_, rfl, by rw [es_sl]; have := sz_pos a; omega, fun s => ?_⟩
        rw [es_sl, ho s, Sl.is, h0]
        simp
      · have hpos := List.length_pos_iff.2 h0
        obtain ⟨d, h1, h2, h3⟩ := hG _ (at_mem hpos)
        have e1 := szL_drop hpos
        rw [List.drop_zero, Nat.zero_add] at e1
        obtain ⟨u, u1, u2, u3⟩ := Union_mem (N := N) (D.sl z o) (D.sl d.nl d.es) (by simp only [es_sl]; omega) hN
        simp only [es_sl] at u2 u3
        obtain ⟨z', o', g1, g3, g2⟩ := rSlots_l0_mem hN (o0 := a) (k := fun (t3z' : Bool) (t3' : List D) => some (D.sl t3z' t3')) (by omega) hG N 1 u.nl u.es (by omega) (by omega) (by omega)
        rw [ilt_in (by unfold ilen len; omega), cnd_t, inb_in (by unfold len; omega), cnd_t, h1, obind_s, u1, obind_s]
        refine ⟨_, g2, by rw [es_sl]; omega, fun s => ?_⟩
        rw [es_sl, g3 s, u3 s, h3 s, @Sl.is a s, ho s, or_assoc]
        have e2 := drop_at hpos
        rw [List.drop_zero] at e2
        have e3 : (∃ k, k ∈ (a.f 1).es ∧ Sl k s) ↔ Sl (at_ (a.f 1).es 0) s ∨ ∃ x, x ∈ (a.f 1).es.drop (0 + 1) ∧ Sl x s := by
          conv => lhs; rw [e2]
          simp only [List.mem_cons, exists_eq_or_imp]
        rw [e3]
    cases hb : (ieq (D.n (D.f a 0)) 2 || ieq (D.n (D.f a 0)) 3) with
    | true =>
      rw [cnd_t]
      have : (a.f 0).n = 2 ∨ (a.f 0).n = 3 := by
        rw [Bool.or_eq_true] at hb
        exact hb.imp ieq_is ieq_is
      exact fin false [D.int (D.n (D.f a 2))] (by simp) fun s => by rw [Has.one, n_int]; exact ⟨fun h => ⟨this, h⟩, fun h => h.2⟩
    | false =>
      rw [cnd_f]
      simp only [rl1_l0]
      rw [Bool.or_eq_false_iff] at hb
      have h1 := ieq_not hb.1
      have h2 := ieq_not hb.2
      exact fin true [] (by simp) fun s => by rw [Has.nil]; exact ⟨False.elim, fun h => h.1.elim (fun h => absurd h h1) (fun h => absurd h h2)⟩
end Go.Ev.S

namespace Go.Ev.S
open Go Go.Ev
set_option linter.unusedVariables false
variable {N : Nat}

/-- Truths, as a list. -/
def trs (l : List D) : List Bool := l.map D.b
theorem trs_len (l : List D) : (trs l).length = l.length := by simp [trs]
theorem trs_at (l : List D) (i : Nat) : (trs l).getD i false = (at_ l i).b := by
  unfold trs at_
  rw [List.getD_eq_getElem?_getD, List.getD_eq_getElem?_getD, List.getElem?_map]
  cases l[i]? <;> rfl
theorem trs_put (l : List D) (i : Nat) (x : D) : trs (put l i x) = (trs l).set i x.b := by
  unfold trs put
  rw [List.map_set]

/-- Is a slot bound? -/
def okS (B : List Bool) (s : Int) : Prop := 0 ≤ s ∧ s < B.length ∧ B.getD (tn s) false = true
/-- Is a term? -/
noncomputable def bt (B : List Bool) (t : D) : Bool := @decide (∀ s, Sl t s → okS B s) (Classical.propDecidable _)
theorem bt_t {B : List Bool} {t : D} : bt B t = true ↔ ∀ s, Sl t s → okS B s := by unfold bt; exact @decide_eq_true_iff _ (Classical.propDecidable _)
theorem bt_f {B : List Bool} {t : D} (h : ¬ ∀ s, Sl t s → okS B s) : bt B t = false := by
  cases e : bt B t with
  | false => rfl
  | true => exact absurd (bt_t.1 e) h

theorem gS_is (b : List D) (s : Int) : ∃ v, (cnd (ilt s 0) (some true) (cnd (ile (ilen (len b)) s) (some true) (cnd (inb s (len b)) (some (bno (D.b (at_ b (tn s))))) none))) = some v ∧ (v = false ↔ okS (trs b) s) := by
  unfold okS
  rw [trs_len, trs_at]
  cases h1 : ilt s 0 with
  | true =>
    have := ilt_is h1
    exact ⟨true, rfl, ⟨fun h => (by cases h), fun h => by omega⟩⟩
  | false =>
    have h1 := ilt_not h1
    rw [cnd_f]
    cases h2 : ile (ilen (len b)) s with
    | true =>
      have h2 := ile_is h2
      unfold ilen len at h2
      exact ⟨true, rfl, ⟨fun h => (by cases h), fun h => by omega⟩⟩
    | false =>
      have h2 := ile_not h2
      unfold ilen len at h2
      rw [cnd_f, inb_in (by unfold len; omega), cnd_t]
      refine ⟨_, rfl, ⟨fun h => ⟨by omega, by omega, bno_not h⟩, fun h => by rw [h.2.2]; rfl⟩⟩

theorem binds_val (hN : 16777217 ≤ N) (z : Bool) (b : List D) (t : D) (hs : sz t ≤ 16777215) : binds_ N (.sl z b) t = some (.bool (bt (trs b) t)) := by
  obtain ⟨d, h1, h2, h3⟩ := Slots_mem hN N t (by omega) (by omega)
  unfold binds_ binds
  rw [h1, obind_s]
  simp only [nl_sl, es_sl]
  rcases any_loop (fun n i => binds_l0 (Slots_ N N) N n d.nl d.es (ilen (len d.es)) i z b t (fun (t4' : Int) => some (D.bool (bno (ile 0 t4')))) (some (D.bool true))) d.es.length
      (fun i => cnd (ilt (D.n (at_ d.es i)) 0) (some true) (cnd (ile (ilen (len b)) (D.n (at_ d.es i))) (some true) (cnd (inb (D.n (at_ d.es i)) (len b)) (some (bno (D.b (at_ b (tn (D.n (at_ d.es i))))))) none)))
      (fun (t4' : Int) => some (D.bool (bno (ile 0 t4')))) (some (D.bool true))
      (fun n i hi => by simp only [binds_l0, len_c, ilt_t hi, cnd_t, inb_t hi, tn_c, iadd_1 (show i < 2 ^ 62 by omega)])
      (fun n => by simp only [binds_l0, len_c, ilt_f, cnd_f])
      (fun i hi => by obtain ⟨v, h, _⟩ := gS_is b (at_ d.es i).n; exact ⟨v, h⟩) N 0 (Nat.zero_le _) (by omega) with ⟨g1, g⟩ | ⟨j, _, g1, g2, g⟩
  · refine g.trans ?_
    rw [bt_t.2 fun s hs => ?_]
    obtain ⟨x, hx, rfl⟩ := (h3 s).2 hs
    obtain ⟨i, hi⟩ := List.mem_iff_getElem?.1 hx
    have hlt := (List.getElem?_eq_some_iff.1 hi).1
    have := g1 i (Nat.zero_le _) hlt
    have hxa : at_ d.es i = x := by unfold at_; rw [List.getD_eq_getElem?_getD, hi]; rfl
    simp only [hxa] at this
    obtain ⟨v, h, hv⟩ := gS_is b x.n
    rw [h] at this
    exact hv.1 (Option.some.inj this)
  · refine g.trans ?_
    rw [ile_in (by omega), bno_t, bt_f fun h => ?_]
    have hok := h _ ((h3 _).1 ⟨_, at_mem g1, rfl⟩)
    obtain ⟨v, h, hv⟩ := gS_is b (at_ d.es j).n
    rw [h, hv.2 hok] at g2
    cases g2

theorem rBinds_val (hN : 16777217 ≤ N) (z : Bool) (b : List D) (t : D) (hs : sz t ≤ 16777215) : rBinds_ N (.sl z b) t = some (.bool (bt (trs b) t)) := by
  obtain ⟨d, h1, h2, h3⟩ := rSlots_mem hN N t (by omega) (by omega)
  unfold rBinds_ rBinds
  rw [h1, obind_s]
  simp only [nl_sl, es_sl]
  rcases any_loop (fun n i => rBinds_l0 (rSlots_ N N) N n z b d.nl d.es i (fun (t4' : Bool) => some (D.bool t4')) (some (D.bool true))) d.es.length
      (fun i => cnd (ilt (D.n (at_ d.es i)) 0) (some true) (cnd (ile (ilen (len b)) (D.n (at_ d.es i))) (some true) (cnd (inb (D.n (at_ d.es i)) (len b)) (some (bno (D.b (at_ b (tn (D.n (at_ d.es i))))))) none)))
      (fun (t4' : Int) => some (D.bool false)) (some (D.bool true))
      (fun n i hi => by simp only [rBinds_l0, len_c, ilt_t hi, cnd_t, inb_t hi, tn_c, iadd_1 (show i < 2 ^ 62 by omega)])
      (fun n => by simp only [rBinds_l0, len_c, ilt_f, cnd_f])
      (fun i hi => by obtain ⟨v, h, _⟩ := gS_is b (at_ d.es i).n; exact ⟨v, h⟩) N 0 (Nat.zero_le _) (by omega) with ⟨g1, g⟩ | ⟨j, _, g1, g2, g⟩
  · refine g.trans ?_
    rw [bt_t.2 fun s hs => ?_]
    obtain ⟨x, hx, rfl⟩ := (h3 s).2 hs
    obtain ⟨i, hi⟩ := List.mem_iff_getElem?.1 hx
    have hlt := (List.getElem?_eq_some_iff.1 hi).1
    have := g1 i (Nat.zero_le _) hlt
    have hxa : at_ d.es i = x := by unfold at_; rw [List.getD_eq_getElem?_getD, hi]; rfl
    simp only [hxa] at this
    obtain ⟨v, h, hv⟩ := gS_is b x.n
    rw [h] at this
    exact hv.1 (Option.some.inj this)
  · refine g.trans ?_
    rw [bt_f fun h => ?_]
    have hok := h _ ((h3 _).1 ⟨_, at_mem g1, rfl⟩)
    obtain ⟨v, h, hv⟩ := gS_is b (at_ d.es j).n
    rw [h, hv.2 hok] at g2
    cases g2

theorem bnds_bt (hN : 16777217 ≤ N) (b : List D) (t : D) (hs : sz t ≤ 16777215) : bnds N b t = bt (trs b) t := by
  unfold bnds
  rw [binds_val hN false b t hs]; rfl

/-! ### Terms that cannot fail -/
/-- A term that may. -/
inductive Un : D → Prop
  | own {t : D} (h : (12 ≤ (t.f 0).n ∧ (t.f 0).n ≤ 16) ∨ (t.f 0).n = 18) : Un t
  | kid {t k : D} (hk : k ∈ (t.f 1).es) (h : Un k) : Un t
noncomputable def sf (t : D) : Bool := @decide (¬ Un t) (Classical.propDecidable _)
theorem sf_t {t : D} : sf t = true ↔ ¬ Un t := by unfold sf; exact @decide_eq_true_iff _ (Classical.propDecidable _)
theorem sf_f {t : D} (h : Un t) : sf t = false := by
  cases e : sf t with
  | false => rfl
  | true => exact absurd h (sf_t.1 e)
theorem sf_kid {t k : D} (hk : k ∈ (t.f 1).es) (h : sf k = false) : sf t = false := by
  refine sf_f (.kid hk ?_)
  by_cases hu : Un k
  · exact hu
  · rw [sf_t.2 hu] at h; cases h
theorem sf_all {t : D} (h0 : ¬ ((12 ≤ (t.f 0).n ∧ (t.f 0).n ≤ 16) ∨ (t.f 0).n = 18)) (h : ∀ k ∈ (t.f 1).es, sf k = true) : sf t = true := by
  rw [sf_t]
  rintro (h1 | ⟨hk, h1⟩)
  · exact h0 h1
  · exact sf_t.1 (h _ hk) h1
theorem own_val (a : D) : (cnd (ile 12 (D.n (D.f a 0))) (cnd (ile (D.n (D.f a 0)) 16) (some true) (some (ieq (D.n (D.f a 0)) 18))) (some (ieq (D.n (D.f a 0)) 18))) = some ((ile 12 (a.f 0).n && ile (a.f 0).n 16) || ieq (a.f 0).n 18) := by
  cases ile 12 (D.n (D.f a 0)) <;> cases ile (D.n (D.f a 0)) 16 <;> rfl
theorem own_iff (a : D) : ((ile 12 (a.f 0).n && ile (a.f 0).n 16) || ieq (a.f 0).n 18) = true ↔ ((12 ≤ (a.f 0).n ∧ (a.f 0).n ≤ 16) ∨ (a.f 0).n = 18) := by
  rw [Bool.or_eq_true, Bool.and_eq_true]
  exact ⟨fun h => h.imp (fun h => ⟨ile_is h.1, ile_is h.2⟩) ieq_is, fun h => h.imp (fun h => ⟨ile_in h.1, ile_in h.2⟩) ieq_in⟩

theorem Safe_val (hN : 16777217 ≤ N) : ∀ (k : Nat) (a : D), sz a < k → sz a ≤ 16777216 → Safe_ N k a = some (.bool (sf a))
  | 0, a, h, _ => by omega
  | k + 1, a, h, hs => by
    have hl := len_kids a 1
    have e : Safe_ N (k + 1) a = Safe (Safe_ N k) N a := rfl
    rw [e]
    unfold Safe
    rw [own_val, obind_s]
    cases hb : ((ile 12 (a.f 0).n && ile (a.f 0).n 16) || ieq (a.f 0).n 18) with
    | true => rw [sf_f (.own ((own_iff a).1 hb))]; rfl
    | false =>
      have hno : ¬ ((12 ≤ (a.f 0).n ∧ (a.f 0).n ≤ 16) ∨ (a.f 0).n = 18) := fun h => by rw [(own_iff a).2 h] at hb; cases hb
      rw [bno_f, cnd_t]
      have ih : ∀ i, i < (a.f 1).es.length → Safe_ N k (at_ (a.f 1).es i) = some (.bool (sf (at_ (a.f 1).es i))) := fun i hi => by
        have := sz_kid (at_mem hi)
        exact Safe_val hN k _ (by omega) (by omega)
      rcases any_loop (fun n i => Safe_l0 (Safe_ N k) N n (a.f 1).nl (a.f 1).es (ilen (len (a.f 1).es)) i a (fun (t4' : Int) => some (D.bool (bno (ile 0 t4')))) (some (D.bool true))) (a.f 1).es.length
          (fun i => some (bno (sf (at_ (a.f 1).es i)))) (fun (t4' : Int) => some (D.bool (bno (ile 0 t4')))) (some (D.bool true))
          (fun n i hi => by simp only [Safe_l0, len_c, ilt_t hi, cnd_t, inb_t hi, tn_c, iadd_1 (show i < 2 ^ 62 by omega), ih i hi, obind_s, b_bool])
          (fun n => by simp only [Safe_l0, len_c, ilt_f, cnd_f])
          (fun i hi => ⟨_, rfl⟩) N 0 (Nat.zero_le _) (by omega) with ⟨g1, g⟩ | ⟨j, _, g1, g2, g⟩
      · refine g.trans ?_
        rw [sf_all hno fun x hx => ?_]
        obtain ⟨i, hi⟩ := List.mem_iff_getElem?.1 hx
        have := g1 i (Nat.zero_le _) (List.getElem?_eq_some_iff.1 hi).1
        have hxa : at_ (a.f 1).es i = x := by unfold at_; rw [List.getD_eq_getElem?_getD, hi]; rfl
        rw [hxa] at this
        exact bno_not (Option.some.inj this)
      · refine g.trans ?_
        rw [ile_in (by omega), bno_t, sf_kid (at_mem g1) (bno_is (Option.some.inj g2))]

theorem rSafe_val (hN : 16777217 ≤ N) : ∀ (k : Nat) (a : D), sz a < k → sz a ≤ 16777216 → rSafe_ N k a = some (.bool (sf a))
  | 0, a, h, _ => by omega
  | k + 1, a, h, hs => by
    have hl := len_kids a 1
    have e : rSafe_ N (k + 1) a = rSafe (rSafe_ N k) N a := rfl
    rw [e]
    unfold rSafe
    rw [own_val, obind_s]
    cases hb : ((ile 12 (a.f 0).n && ile (a.f 0).n 16) || ieq (a.f 0).n 18) with
    | true => rw [sf_f (.own ((own_iff a).1 hb))]; rfl
    | false =>
      have hno : ¬ ((12 ≤ (a.f 0).n ∧ (a.f 0).n ≤ 16) ∨ (a.f 0).n = 18) := fun h => by rw [(own_iff a).2 h] at hb; cases hb
      rw [cnd_f]
      have ih : ∀ i, i < (a.f 1).es.length → rSafe_ N k (at_ (a.f 1).es i) = some (.bool (sf (at_ (a.f 1).es i))) := fun i hi => by
        have := sz_kid (at_mem hi)
        exact rSafe_val hN k _ (by omega) (by omega)
      rcases any_loop (fun n i => rSafe_l0 (rSafe_ N k) N n i a (fun (t2' : Bool) => some (D.bool t2')) (some (D.bool true))) (a.f 1).es.length
          (fun i => some (bno (sf (at_ (a.f 1).es i)))) (fun (t4' : Int) => some (D.bool false)) (some (D.bool true))
          (fun n i hi => by simp only [rSafe_l0, len_c, ilt_t hi, cnd_t, inb_t hi, tn_c, iadd_1 (show i < 2 ^ 62 by omega), ih i hi, obind_s, b_bool])
          (fun n => by simp only [rSafe_l0, len_c, ilt_f, cnd_f])
          (fun i hi => ⟨_, rfl⟩) N 0 (Nat.zero_le _) (by omega) with ⟨g1, g⟩ | ⟨j, _, g1, g2, g⟩
      · refine g.trans ?_
        rw [sf_all hno fun x hx => ?_]
        obtain ⟨i, hi⟩ := List.mem_iff_getElem?.1 hx
        have := g1 i (Nat.zero_le _) (List.getElem?_eq_some_iff.1 hi).1
        have hxa : at_ (a.f 1).es i = x := by unfold at_; rw [List.getD_eq_getElem?_getD, hi]; rfl
        rw [hxa] at this
        exact bno_not (Option.some.inj this)
      · refine g.trans ?_
        rw [sf_kid (at_mem g1) (bno_is (Option.some.inj g2))]

theorem sure_sf (hN : 16777217 ≤ N) (t : D) (hs : sz t ≤ 16777215) : sure N t = sf t := by
  unfold sure
  rw [Safe_val hN N t (by omega) (by omega)]; rfl

theorem AllSafe_val (hN : 16777217 ≤ N) (a : D) (hs : szL a.es ≤ 16777215) : AllSafe_ N a = some (.bool (a.es.all (sure N))) := by
  have hl := szL_len a.es
  unfold AllSafe_ AllSafe
  have ih : ∀ i, i < a.es.length → rSafe_ N N (at_ a.es i) = some (.bool (sure N (at_ a.es i))) := fun i hi => by
    have := szL_mem (at_mem hi)
    rw [sure_sf hN _ (by omega)]
    exact rSafe_val hN N _ (by omega) (by omega)
  rcases any_loop (fun n i => AllSafe_l0 (rSafe_ N N) N n a.nl a.es i (fun (t2' : Bool) => some (D.bool t2')) (some (D.bool true))) a.es.length
      (fun i => some (bno (sure N (at_ a.es i)))) (fun (t4' : Int) => some (D.bool false)) (some (D.bool true))
      (fun n i hi => by simp only [AllSafe_l0, len_c, ilt_t hi, cnd_t, inb_t hi, tn_c, iadd_1 (show i < 2 ^ 62 by omega), ih i hi, obind_s, b_bool])
      (fun n => by simp only [AllSafe_l0, len_c, ilt_f, cnd_f])
      (fun i hi => ⟨_, rfl⟩) N 0 (Nat.zero_le _) (by omega) with ⟨g1, g⟩ | ⟨j, _, g1, g2, g⟩
  · refine g.trans ?_
    congr 2
    symm
    rw [List.all_eq_true]
    intro x hx
    obtain ⟨i, hi⟩ := List.mem_iff_getElem?.1 hx
    have := g1 i (Nat.zero_le _) (List.getElem?_eq_some_iff.1 hi).1
    have hxa : at_ a.es i = x := by unfold at_; rw [List.getD_eq_getElem?_getD, hi]; rfl
    rw [hxa] at this
    exact bno_not (Option.some.inj this)
  · refine g.trans ?_
    congr 2
    symm
    rw [List.all_eq_false]
    exact ⟨_, at_mem g1, by rw [bno_is (Option.some.inj g2)]; simp⟩

/-! ### Patterns -/
noncomputable def pt (c : D) : Bool := @decide (Pat c) (Classical.propDecidable _)
theorem pt_t {c : D} : pt c = true ↔ Pat c := by unfold pt; exact @decide_eq_true_iff _ (Classical.propDecidable _)
theorem pt_f {c : D} (h : ¬ Pat c) : pt c = false := by
  cases e : pt c with
  | false => rfl
  | true => exact absurd (pt_t.1 e) h

theorem pattern_val (hN : 16777217 ≤ N) (c : D) : pattern_ N c = some (.bool (pt c)) := by
  obtain ⟨v, h, hv⟩ := pattern_is hN c
  rw [h]
  cases v with
  | true =>
    obtain ⟨h1, h2, h3, h4⟩ := hv rfl
    rw [pt_t.2 ⟨h1, h2, h3, h4⟩]
  | false =>
    rw [pt_f]
    rintro ⟨p1, p2, p3, p4⟩
    unfold pattern_ pattern at h
    rw [ile_in (by unfold ilen len; omega), cnd_t, ile_in (by unfold ilen len; omega), cnd_t, ile_in (by unfold ilen len; omega), cnd_t] at h
    have hor : ∀ (x y : Bool), cnd x (some true) (some y) = some (x || y) := fun x y => by cases x <;> rfl
    rcases any_loop (fun n i => pattern_l0 N n (c.f 1).nl (c.f 1).es (ilen (len (c.f 1).es)) i c (ilen (len (c.f 0).es)) (fun (t4' : Int) => some (D.bool (bno (ile 0 t4')))) (some (D.bool true))) (c.f 1).es.length
        (fun i => some (ilt (isel (ilt (D.n (D.f (at_ (c.f 1).es i) 3)) (D.n (D.f (at_ (c.f 1).es i) 2))) (D.n (D.f (at_ (c.f 1).es i) 3)) (D.n (D.f (at_ (c.f 1).es i) 2))) 0 || ile (ilen (len (c.f 0).es)) (isel (ilt (D.n (D.f (at_ (c.f 1).es i) 2)) (D.n (D.f (at_ (c.f 1).es i) 3))) (D.n (D.f (at_ (c.f 1).es i) 3)) (D.n (D.f (at_ (c.f 1).es i) 2)))))
        (fun (t4' : Int) => some (D.bool (bno (ile 0 t4')))) (some (D.bool true))
        (fun n i hi => by simp only [pattern_l0, len_c, ilt_t hi, cnd_t, inb_t hi, tn_c, iadd_1 (show i < 2 ^ 62 by omega), hor])
        (fun n => by simp only [pattern_l0, len_c, ilt_f, cnd_f])
        (fun i hi => ⟨_, rfl⟩) N 0 (Nat.zero_le _) (by omega) with ⟨g1, g⟩ | ⟨j, _, g1, g2, g⟩
    · have := h.symm.trans g; cases this
    · have g2 := Option.some.inj g2
      obtain ⟨q1, q2, q3, q4⟩ := p4 _ (at_mem g1)
      rw [Bool.or_eq_true] at g2
      rcases g2 with g2 | g2
      · have g2 := ilt_is g2
        cases e : ilt (D.n (D.f (at_ (c.f 1).es j) 3)) (D.n (D.f (at_ (c.f 1).es j) 2)) <;> rw [e] at g2 <;> simp only [isel] at g2 <;> omega
      · have g2 := ile_is g2
        unfold ilen len at g2
        cases e : ilt (D.n (D.f (at_ (c.f 1).es j) 2)) (D.n (D.f (at_ (c.f 1).es j) 3)) <;> rw [e] at g2 <;> simp only [isel] at g2 <;> omega

theorem Pattern_val (hN : 16777217 ≤ N) (c : D) : Pattern_ N c = some (.bool (pt c)) := by
  unfold Pattern_ Pattern
  have h1 : (cnd (ilt (ilen (len (D.es (D.f c 0)))) 1) (some true) (cnd (ilt 8 (ilen (len (D.es (D.f c 0))))) (some true) (some (ilt 8 (ilen (len (D.es (D.f c 1)))))))) = some (decide (¬ (1 ≤ (c.f 0).es.length ∧ (c.f 0).es.length ≤ 8 ∧ (c.f 1).es.length ≤ 8))) := by
    unfold ilen len ilt
    by_cases a : ((c.f 0).es.length : Int) < 1
    · rw [decide_eq_true a, cnd_t, decide_eq_true (by omega)]
    · rw [decide_eq_false a, cnd_f]
      by_cases b : (8 : Int) < ((c.f 0).es.length : Int)
      · rw [decide_eq_true b, cnd_t, decide_eq_true (by omega)]
      · rw [decide_eq_false b, cnd_f]
        congr 1
        exact decide_eq_decide.2 (by omega)
  rw [h1, obind_s]
  by_cases hp : 1 ≤ (c.f 0).es.length ∧ (c.f 0).es.length ≤ 8 ∧ (c.f 1).es.length ≤ 8
  · rw [decide_eq_false (fun h => h hp), cnd_f]
    have hor : ∀ (x y z w : Bool), cnd x (some true) (cnd y (some true) (cnd z (some true) (some w))) = some (x || y || z || w) := fun x y z w => by cases x <;> cases y <;> cases z <;> rfl
    rcases any_loop (fun n i => Pattern_l0 N n (ilen (len (D.es (D.f c 0)))) i c (fun (t2' : Bool) => some (D.bool t2')) (some (D.bool true))) (c.f 1).es.length
        (fun i => some (ilt (D.n (D.f (at_ (c.f 1).es i) 2)) 0 || ile (ilen (len (c.f 0).es)) (D.n (D.f (at_ (c.f 1).es i) 2)) || ilt (D.n (D.f (at_ (c.f 1).es i) 3)) 0 || ile (ilen (len (c.f 0).es)) (D.n (D.f (at_ (c.f 1).es i) 3))))
        (fun (t4' : Int) => some (D.bool false)) (some (D.bool true))
        (fun n i hi => by simp only [Pattern_l0, len_c, ilt_t hi, cnd_t, inb_t hi, tn_c, iadd_1 (show i < 2 ^ 62 by omega), hor])
        (fun n => by simp only [Pattern_l0, len_c, ilt_f, cnd_f])
        (fun i hi => ⟨_, rfl⟩) N 0 (Nat.zero_le _) (by omega) with ⟨g1, g⟩ | ⟨j, _, g1, g2, g⟩
    · refine g.trans ?_
      rw [pt_t.2 ⟨hp.1, hp.2.1, hp.2.2, fun e he => ?_⟩]
      obtain ⟨i, hi⟩ := List.mem_iff_getElem?.1 he
      have := g1 i (Nat.zero_le _) (List.getElem?_eq_some_iff.1 hi).1
      have hxa : at_ (c.f 1).es i = e := by unfold at_; rw [List.getD_eq_getElem?_getD, hi]; rfl
      rw [hxa] at this
      have := Option.some.inj this
      simp only [Bool.or_eq_false_iff] at this
      obtain ⟨⟨⟨u1, u2⟩, u3⟩, u4⟩ := this
      have u1 := ilt_not u1
      have u2 := ile_not u2
      have u3 := ilt_not u3
      have u4 := ile_not u4
      unfold ilen len at u2 u4
      omega
    · refine g.trans ?_
      rw [pt_f]
      rintro ⟨p1, p2, p3, p4⟩
      obtain ⟨q1, q2, q3, q4⟩ := p4 _ (at_mem g1)
      have g2 := Option.some.inj g2
      simp only [Bool.or_eq_true] at g2
      rcases g2 with ((g2 | g2) | g2) | g2
      · have := ilt_is g2; omega
      · have := ile_is g2; unfold ilen len at this; omega
      · have := ilt_is g2; omega
      · have := ile_is g2; unfold ilen len at this; omega
  · rw [decide_eq_true hp, cnd_t, pt_f fun P => hp ⟨P.one, P.few, P.fewE⟩]
end Go.Ev.S
