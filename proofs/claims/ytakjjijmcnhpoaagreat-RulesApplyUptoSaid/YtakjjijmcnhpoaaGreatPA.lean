/- The head of the laws: a join of two scans is rewritten in one step. The plain laws: numbers, lists, loops that look for an element. The plain laws: the slots of a term, whether terms are safe and bound. The plain laws: what a plan binds. The plain laws: what a plan binds, by its node. The plain laws: what a plan binds, whole. -/
import Derived.Test.YtakjjijmcnhpoaaGreatSB
import Derived.Test.YtakjjijmcnhpoaaGreatEvM
import Derived.IntWalk
namespace Go.Ev.S
open Go Go.Ev
theorem head_true : head_ 33554432 = some (.bool true) := by kernel_rfl
end Go.Ev.S

namespace Go.Ev.S
open Go Go.Ev
set_option linter.unusedVariables false

theorem cnd_t {α : Type} (x y : α) : cnd true x y = x := rfl
theorem cnd_f {α : Type} (x y : α) : cnd false x y = y := rfl
theorem obind_s {α β : Type} (a : α) (f : α → Option β) : obind (some a) f = f a := rfl
theorem bno_t : bno true = false := rfl
theorem bno_f : bno false = true := rfl
theorem bno_c (b : Bool) : bno b = !b := by cases b <;> rfl
theorem tn_c (i : Nat) : tn (i : Int) = i := rfl
theorem es_sl (z : Bool) (l : List D) : (D.sl z l).es = l := rfl
theorem nl_sl (z : Bool) (l : List D) : (D.sl z l).nl = z := rfl
theorem n_int (i : Int) : (D.int i).n = i := rfl
theorem b_bool (i : Bool) : (D.bool i).b = i := rfl
theorem tn_0 : tn 0 = 0 := rfl
theorem ilen_c (n : Nat) : ilen n = (n : Int) := rfl
theorem len_c {α : Type} (l : List α) : len l = l.length := rfl
theorem nadd_c (a b : Nat) : nadd a b = a + b := rfl
theorem nsub_c (a b : Nat) : nsub a b = a - b := rfl
theorem app_c (a b : List D) : app a b = a ++ b := rfl
theorem ilt_c (i n : Nat) : ilt (i : Int) (ilen n) = decide (i < n) := by simp [ilt, ilen]
theorem inb_c (i n : Nat) : inb (i : Int) n = decide (i < n) := by simp [inb]
theorem ieq_c (i n : Nat) : ieq (ilen i) (ilen n) = decide (i = n) := by unfold ieq ilen; exact decide_eq_decide.2 (by omega)
theorem ilt_t {i n : Nat} (h : i < n) : ilt (i : Int) (ilen n) = true := by rw [ilt_c]; simpa using h
theorem ilt_f (n : Nat) : ilt (n : Int) (ilen n) = false := by rw [ilt_c]; simp
theorem inb_t {i n : Nat} (h : i < n) : inb (i : Int) n = true := by rw [inb_c]; simpa using h
theorem iadd_1 {i : Nat} (h : i < 2 ^ 62) : iadd IntKind.i64 (i : Int) 1 = ((i + 1 : Nat) : Int) := by
  unfold iadd; rw [IntWalk.i64_in _ (by omega)]; simp
theorem iadd_in {x y : Int} (h : -4611686018427387904 ≤ x + y ∧ x + y < 4611686018427387904) : iadd IntKind.i64 x y = x + y := by
  unfold iadd; rw [IntWalk.i64_in _ (by omega)]
theorem isub_in {x y : Int} (h : -4611686018427387904 ≤ x - y ∧ x - y < 4611686018427387904) : isub IntKind.i64 x y = x - y := by
  unfold isub; rw [IntWalk.i64_in _ (by omega)]
theorem isub_1 {i : Nat} (h : i < 2 ^ 62) (h1 : 1 ≤ i) : isub IntKind.i64 (i : Int) 1 = ((i - 1 : Nat) : Int) := by
  rw [isub_in (by omega)]; omega
theorem inc_in {l h : Int} {n : Nat} (e : 0 ≤ l ∧ l ≤ h ∧ h ≤ n) : inc l h n = true := by unfold inc; exact decide_eq_true e
theorem ilt_in {x y : Int} (h : x < y) : ilt x y = true := decide_eq_true h
theorem ilt_no {x y : Int} (h : ¬ x < y) : ilt x y = false := decide_eq_false h
theorem ile_in {x y : Int} (h : x ≤ y) : ile x y = true := decide_eq_true h
theorem ile_no {x y : Int} (h : ¬ x ≤ y) : ile x y = false := decide_eq_false h
theorem ieq_in {x y : Int} (h : x = y) : ieq x y = true := decide_eq_true h
theorem ieq_no {x y : Int} (h : ¬ x = y) : ieq x y = false := decide_eq_false h
theorem ilt_is {x y : Int} (h : ilt x y = true) : x < y := of_decide_eq_true h
theorem ilt_not {x y : Int} (h : ilt x y = false) : ¬ x < y := of_decide_eq_false h
theorem ile_is {x y : Int} (h : ile x y = true) : x ≤ y := of_decide_eq_true h
theorem ile_not {x y : Int} (h : ile x y = false) : ¬ x ≤ y := of_decide_eq_false h
theorem ieq_is {x y : Int} (h : ieq x y = true) : x = y := of_decide_eq_true h
theorem ieq_not {x y : Int} (h : ieq x y = false) : ¬ x = y := of_decide_eq_false h
theorem inb_in {i : Int} {n : Nat} (h : 0 ≤ i ∧ i < n) : inb i n = true := decide_eq_true h
theorem bno_is {b : Bool} (h : bno b = true) : b = false := by cases b <;> simp_all [bno]
theorem bno_not {b : Bool} (h : bno b = false) : b = true := by cases b <;> simp_all [bno]
theorem room_in {n b : Nat} (h : n ≤ 2 ^ 44) (h2 : n * b ≤ 2 ^ 44) : room n b = true := by simp only [room, decide_eq_true_eq]; exact ⟨h, h2⟩
theorem at_mem {l : List D} {i : Nat} (h : i < l.length) : at_ l i ∈ l := by
  unfold at_; rw [List.getD_eq_getElem?_getD, List.getElem?_eq_getElem h]; exact List.getElem_mem h

theorem sz_pos (d : D) : 1 ≤ sz d := by cases d <;> simp [sz]
theorem szL_mem {l : List D} {d : D} (h : d ∈ l) : sz d ≤ szL l := by
  induction l with
  | nil => cases h
  | cons a l ih =>
    simp only [szL]
    rcases List.mem_cons.1 h with rfl | h
    · omega
    · have := ih h; omega
theorem szL_len (l : List D) : l.length ≤ szL l := by
  induction l with
  | nil => simp [szL]
  | cons a l ih => simp only [szL, List.length_cons]; have := sz_pos a; omega
theorem szL_app (a b : List D) : szL (a ++ b) = szL a + szL b := by
  induction a with
  | nil => simp [szL]
  | cons x a ih => simp only [List.cons_append, szL, ih]; omega
theorem szL_es (d : D) : szL d.es + 1 ≤ sz d := by
  cases d <;> simp [D.es, sz, szL]
theorem sz_f (d : D) (i : Nat) : sz (d.f i) ≤ sz d := by
  cases d with
  | st fs =>
    simp only [D.f, sz]
    rw [List.getD_eq_getElem?_getD]
    cases h : fs[i]? with
    | none => simp [sz]
    | some x => have := szL_mem (List.mem_of_getElem? h); simp; omega
  | _ => simp [D.f, sz]
/-- The elements of a list in a field. -/
theorem sz_kids (d : D) (i : Nat) : szL (d.f i).es + 1 ≤ sz d := by have := szL_es (d.f i); have := sz_f d i; omega
theorem sz_kid {d x : D} {i : Nat} (h : x ∈ (d.f i).es) : sz x < sz d := by have := szL_mem h; have := sz_kids d i; omega
theorem len_kids (d : D) (i : Nat) : (d.f i).es.length < sz d := by have := szL_len (d.f i).es; have := sz_kids d i; omega

/-- A loop that looks for the first element of a kind. -/
theorem any_loop {R : Type} (F : Nat → Int → Option R) (m : Nat) (g : Nat → Option Bool) (k0 : Int → Option R) (k1 : Option R)
    (hstep : ∀ (n i : Nat), i < m → F (n + 1) (i : Int) = obind (g i) fun b => cnd b (k0 (i : Int)) (F n ((i + 1 : Nat) : Int)))
    (hend : ∀ n, F (n + 1) (m : Int) = k1) (hg : ∀ i, i < m → ∃ b, g i = some b) :
    ∀ (n i : Nat), i ≤ m → m - i < n → ((∀ j, i ≤ j → j < m → g j = some false) ∧ F n (i : Int) = k1) ∨ ∃ j : Nat, i ≤ j ∧ j < m ∧ g j = some true ∧ F n (i : Int) = k0 (j : Int)
  | 0, i, _, h => by omega
  | n + 1, i, hi, h => by
    by_cases him : i = m
    · subst him; exact .inl ⟨fun j h1 h2 => absurd h2 (by omega), hend n⟩
    · obtain ⟨b, hb⟩ := hg i (by omega)
      rw [hstep n i (by omega), hb, obind_s]
      cases b with
      | true => exact .inr ⟨i, Nat.le_refl _, by omega, hb, rfl⟩
      | false =>
        rw [cnd_f]
        rcases any_loop F m g k0 k1 hstep hend hg n (i + 1) (by omega) (by omega) with ⟨h1, h2⟩ | ⟨j, h1, h2, h3, h4⟩
        · refine .inl ⟨fun j hj hm => ?_, h2⟩
          by_cases e : j = i
          · subst e; exact hb
          · exact h1 j (by omega) hm
        · exact .inr ⟨j, by omega, h2, h3, h4⟩

variable {N : Nat}
/-- The list has this number among its own. -/
theorem ContainsOp_is (hN : 16777216 ≤ N) (nl : Bool) (es : List D) (x : D) (h : es.length ≤ 16) : ContainsOp_ N (.sl nl es) x = some (.bool (es.any fun d => decide (x.n = d.n))) := by
  unfold ContainsOp_ ContainsOp
  simp only [D.es, D.nl, len_c]
  rcases any_loop (fun n i => ContainsOp_l0 N n nl es x.n (ilen es.length) i (fun t4' => some (D.bool (ile 0 t4'))) (some (D.bool false))) es.length (fun i => some (ieq x.n (at_ es i).n)) (fun i => some (D.bool (ile 0 i))) (some (D.bool false))
      (fun n i hi => by simp only [ContainsOp_l0, ilt_t hi, cnd_t, len_c, inb_t hi, tn_c, obind_s, iadd_1 (show i < 2 ^ 62 by omega)])
      (fun n => by simp only [ContainsOp_l0, ilt_f, cnd_f]) (fun i hi => ⟨_, rfl⟩) N 0 (Nat.zero_le _) (by omega) with ⟨h1, h2⟩ | ⟨j, h1, h2, h3, h4⟩
  · refine h2.trans ?_
    congr 2
    symm
    rw [List.any_eq_false]
    intro d hd
    obtain ⟨i, hi⟩ := List.mem_iff_getElem?.1 hd
    have := h1 i (Nat.zero_le _) (List.getElem?_eq_some_iff.1 hi).1
    simp only [at_, List.getD_eq_getElem?_getD, hi, Option.getD_some, Option.some.injEq, ieq] at this
    simpa using this
  · refine h4.trans ?_
    congr 2
    have hm := at_mem h2
    have e : ile 0 (j : Int) = true := by simp [ile]
    rw [e]
    symm
    rw [List.any_eq_true]
    exact ⟨_, hm, by simpa [ieq] using h3⟩
theorem step_is (hN : 16777216 ≤ N) (p : D) (nl : Bool) (es : List D) (h : es.length ≤ 16) : step_ N p (.sl nl es) = some (.bool (es.any fun d => decide ((p.f 0).n = d.n))) := by
  unfold step_ step
  simp only [D.es, D.nl]
  rw [ContainsOp_is hN nl es _ h]
  rfl
end Go.Ev.S

namespace Go.Ev.S
open Go Go.Ev
set_option linter.unusedVariables false

theorem szL_drop {l : List D} {i : Nat} (h : i < l.length) : szL (l.drop i) = sz (at_ l i) + szL (l.drop (i + 1)) := by
  rw [List.drop_eq_getElem_cons h]
  unfold at_
  rw [List.getD_eq_getElem?_getD, List.getElem?_eq_getElem h]
  rfl
theorem szL_drop0 (l : List D) : szL (l.drop 0) = szL l := rfl
theorem cut_len (l : List D) (a n : Nat) : (cut l a n).length ≤ l.length := by unfold cut; simp; omega

theorem l3_l0 (G GS : D → Option D) (N : Nat) {R : Type} : ∀ (n : Nat) z l a b o (k : List D → Option R), Slots_l3 G GS N n z l a b o k = Slots_l0 G GS N n z l a b o k
  | 0, _, _, _, _, _, _ => rfl
  | n + 1, z, l, a, b, o, k => by simp only [Slots_l3, Slots_l0, l3_l0 G GS N n]
theorem l5_l2 (G GS : D → Option D) (N : Nat) {R : Type} : ∀ (n : Nat) a b c d o p (k : Int → List D → Option R), Slots_l5 G GS N n a b c d o p k = Slots_l2 G GS N n a b c d o p k
  | 0, _, _, _, _, _, _, _ => rfl
  | n + 1, a, b, c, d, o, p, k => by simp only [Slots_l5, Slots_l2, l5_l2 G GS N n]
theorem l4_l1 (G GS : D → Option D) (N : Nat) {R : Type} : ∀ (n : Nat) a o p (k : Nat → Nat → List D → Option R) k1, Slots_l4 G GS N n a o p k k1 = Slots_l1 G GS N n a o p k k1
  | 0, _, _, _, _, _ => rfl
  | n + 1, a, o, p, k, k1 => by simp only [Slots_l4, Slots_l1, l4_l1 G GS N n, l5_l2]

theorem Slots_l0_is {G GS : D → Option D} {N : Nat} {R : Type} {z : Bool} {l : List D} {k : List D → Option R} (hll : l.length ≤ 16777216) (hG : ∀ x ∈ l, ∃ d, G x = some d ∧ d.es.length ≤ sz x) : ∀ (n i : Nat) (o : List D), i ≤ l.length → l.length - i < n → o.length + szL (l.drop i) ≤ 16777216 →
    ∃ o' : List D, o'.length ≤ o.length + szL (l.drop i) ∧ Slots_l0 G GS N n z l (ilen (len l)) (i : Int) o k = k o'
  | 0, i, o, _, h, _ => by omega
  | n + 1, i, o, hi, h, hs => by
    by_cases e : i = l.length
    · subst e
      exact ⟨o, by omega, by simp only [Slots_l0, len_c, ilt_f, cnd_f]⟩
    · have hlt : i < l.length := by omega
      obtain ⟨d, h1, h2⟩ := hG _ (at_mem hlt)
      have e1 := szL_drop hlt
      have hl := szL_len (l.drop i)
      rw [List.length_drop] at hl
      obtain ⟨o', g1, g2⟩ := Slots_l0_is hll hG n (i + 1) (o ++ d.es) (by omega) (by omega) (by rw [List.length_append]; omega)
      rw [List.length_append] at g1
      refine ⟨o', by omega, ?_⟩
      simp only [Slots_l0, len_c, ilt_t hlt, cnd_t, inb_t hlt, tn_c, h1, obind_s, nadd_c]
      rw [room_in (by omega) (by omega), cnd_t, iadd_1 (by omega), app_c]
      exact g2

theorem Slots_l2_is {G GS : D → Option D} {N : Nat} {R : Type} {p : List D} {k : Int → List D → Option R} {a m : Nat} : ∀ (n t3 t5 : Nat) (o : List D), a + m = o.length → 1 ≤ t5 → t5 ≤ m → t3 + 1 ≤ a + t5 → m - t5 < n → o.length ≤ 16777216 →
    ∃ (i : Nat) (o' : List D), o'.length = o.length ∧ i ≤ o'.length ∧ Slots_l2 G GS N n (t3 : Int) a m (t5 : Int) o p k = k (i : Int) o'
  | 0, t3, t5, o, _, _, _, _, h, _ => by omega
  | n + 1, t3, t5, o, ha, h1, h2, h3, h, hs => by
    by_cases e : t5 = m
    · subst e
      exact ⟨t3, o, rfl, by omega, by simp only [Slots_l2, ilt_f, cnd_f]⟩
    · have hlt : t5 < m := by omega
      simp only [Slots_l2, ilt_t hlt, cnd_t, inb_t hlt, tn_c, isub_1 (show t5 < 2 ^ 62 by omega) h1, inb_t (show t5 - 1 < m by omega), len_c, inb_t (show t3 < o.length by omega), iadd_1 (show t5 < 2 ^ 62 by omega), iadd_1 (show t3 < 2 ^ 62 by omega)]
      generalize bno _ = b
      cases b with
      | true =>
        rw [cnd_t]
        have hl : ∀ x, (put o t3 x).length = o.length := fun x => by simp [put]
        obtain ⟨i, o', g1, g2, g3⟩ := Slots_l2_is (G := G) (GS := GS) (N := N) (p := p) (k := k) n (t3 + 1) (t5 + 1) (put o t3 (D.int (D.n (at_ o (nadd a t5))))) (by rw [hl]; exact ha) (by omega) (by omega) (by omega) (by omega) (by rw [hl]; exact hs)
        exact ⟨i, o', by rw [g1, hl], g2, g3⟩
      | false =>
        rw [cnd_f]
        exact Slots_l2_is n t3 (t5 + 1) o ha (by omega) (by omega) (by omega) (by omega) hs

theorem Slots_l1_is {G GS : D → Option D} {N : Nat} (hN : 16777217 ≤ N) {R : Type} {o p : List D} {k : Nat → Nat → List D → Option R} {k1 : Option R} (hs : o.length ≤ 16777216) : ∀ (n t3 : Nat), 1 ≤ t3 → t3 ≤ o.length → o.length - t3 < n →
    Slots_l1 G GS N n (t3 : Int) o p k k1 = k1 ∨ ∃ (a m : Nat) (o' : List D), o'.length = o.length ∧ Slots_l1 G GS N n (t3 : Int) o p k k1 = k a m o'
  | 0, t3, _, _, h => by omega
  | n + 1, t3, h1, h2, h => by
    by_cases e : t3 = o.length
    · subst e
      exact .inl (by simp only [Slots_l1, len_c, ilt_f, cnd_f])
    · have hlt : t3 < o.length := by omega
      simp only [Slots_l1, len_c, ilt_t hlt, cnd_t, inb_t hlt, tn_c, isub_1 (show t3 < 2 ^ 62 by omega) h1, inb_t (show t3 - 1 < o.length by omega), iadd_1 (show t3 < 2 ^ 62 by omega)]
      generalize ieq _ _ = b
      cases b with
      | false => rw [cnd_f]; exact Slots_l1_is hN hs n (t3 + 1) (by omega) (by omega) (by omega)
      | true =>
        have hc : inc (t3 : Int) (ilen o.length) o.length = true := inc_in (by unfold ilen; omega)
        rw [cnd_t, hc, cnd_t]
        right
        obtain ⟨i, o', g1, g2, g3⟩ := Slots_l2_is (G := G) (GS := GS) (N := N) (p := p) (k := fun (t3' : Int) (o2' : List D) => cnd (inc t3' (ilen (len o2')) (len o2')) (cnd (inc 0 t3' (len (app (cut o2' 0 (tn t3')) (app (reps (nsub (len o2') (tn t3')) (D.int 0)) (cut o2' (nadd (tn t3') (nsub (len o2') (tn t3'))) (len o2')))))) (k 0 (nsub (tn t3') 0) (app (cut o2' 0 (tn t3')) (app (reps (nsub (len o2') (tn t3')) (D.int 0)) (cut o2' (nadd (tn t3') (nsub (len o2') (tn t3'))) (len o2'))))) none) none) (a := t3) (m := o.length - t3) N t3 1 o (by omega) (Nat.le_refl _) (by omega) (by omega) (by omega) hs
        refine ⟨0, i - 0, app (cut o' 0 i) (app (reps (nsub o'.length i) (D.int 0)) (cut o' (nadd i (nsub o'.length i)) o'.length)), ?_, ?_⟩
        · simp only [app, cut, reps, nsub, nadd, List.length_append, List.length_take, List.length_drop, List.length_replicate]; omega
        · refine g3.trans ?_
          have hc : inc (i : Int) (ilen o'.length) o'.length = true := inc_in (by unfold ilen; omega)
          simp only [len_c, tn_c, hc, cnd_t]
          rw [show inc 0 (i : Int) _ = true from ?_, cnd_t]
          · rfl
          · refine inc_in ?_; simp only [app, cut, reps, nsub, nadd, List.length_append, List.length_take, List.length_drop, List.length_replicate]; omega

theorem Sort_is (N : Nat) (z : Bool) (l : List D) (h : l.length ≤ 16777216) : ∃ d, Sort_ N (.sl z l) = some d ∧ (d.f 0).es.length = l.length := by
  refine ⟨_, by unfold Sort_; rw [show decide ((D.sl z l).es.length < 4611686018427387904) = true from decide_eq_true (by show l.length < _; omega), cnd_t], ?_⟩
  simp [D.f, D.es, sortL_len]

/-- How the slots of a term end. -/
theorem Slots_end {G : D → Option D} {N : Nat} (hN : 16777217 ≤ N) (o : List D) (h : o.length ≤ 16777216) :
    ∃ r, (obind (Sort_ N (D.sl (empty o) o)) fun (d : D) => cnd (ilt (ilen (len (D.es (D.f d 0)))) 2) (some (D.sl (empty (D.es (D.f d 0))) (D.es (D.f d 0)))) (Slots_l1 G (Sort_ N) N N 1 (D.es (D.f d 0)) [] (fun (t2l' t2n' : Nat) (o2' : List D) => some (D.sl (empty o2') (cut o2' t2l' t2n'))) (some (D.sl (empty (D.es (D.f d 0))) (D.es (D.f d 0)))))) = some r ∧ r.es.length ≤ o.length := by
  obtain ⟨d, h1, h2⟩ := Sort_is N (empty o) o h
  rw [h1, obind_s]
  by_cases hl : (d.f 0).es.length < 2
  · rw [show ilt (ilen (len (d.f 0).es)) 2 = true from ilt_in (by unfold ilen len; omega), cnd_t]
    exact ⟨_, rfl, by simp only [D.es]; exact Nat.le_of_eq h2⟩
  · rw [show ilt (ilen (len (d.f 0).es)) 2 = false from ilt_no (by unfold ilen len; omega), cnd_f]
    rcases Slots_l1_is (G := G) (GS := Sort_ N) (N := N) hN (o := (d.f 0).es) (p := []) (k := fun (t2l' t2n' : Nat) (o2' : List D) => some (D.sl (empty o2') (cut o2' t2l' t2n'))) (k1 := some (D.sl (empty (D.es (D.f d 0))) (D.es (D.f d 0)))) (by omega) N 1 (Nat.le_refl _) (by omega) (by omega) with g | ⟨a, m, o', g1, g2⟩
    · exact ⟨_, g, by simp only [D.es]; exact Nat.le_of_eq h2⟩
    · exact ⟨_, g2, by simp only [D.es]; have := cut_len o' a m; omega⟩

theorem Slots_is {N : Nat} (hN : 16777217 ≤ N) : ∀ (k : Nat) (a : D), sz a < k → sz a ≤ 16777216 → ∃ d, Slots_ N k a = some d ∧ d.es.length ≤ sz a
  | 0, a, h, _ => by omega
  | k + 1, a, h, hs => by
    have hk := sz_kids a 1
    have hG : ∀ x ∈ (a.f 1).es, ∃ d, Slots_ N k x = some d ∧ d.es.length ≤ sz x := fun x hx => by
      have := sz_kid hx
      exact Slots_is hN k x (by omega) (by omega)
    have hl := szL_len (a.f 1).es
    have e : Slots_ N (k + 1) a = Slots (Slots_ N k) (Sort_ N) N a := rfl
    rw [e]
    unfold Slots
    have hb : ∃ b, (cnd (ieq (D.n (D.f a 0)) 2) (some true) (some (ieq (D.n (D.f a 0)) 3))) = some b := by
      cases ieq (D.n (D.f a 0)) 2 <;> exact ⟨_, rfl⟩
    obtain ⟨b, hb⟩ := hb
    rw [hb, obind_s]
    cases b with
    | true =>
      rw [cnd_t]
      obtain ⟨o, g1, g2⟩ := Slots_l0_is (GS := Sort_ N) (N := N) (z := (a.f 1).nl) (k := fun (o2' : List D) => obind (Sort_ N (D.sl (empty o2') o2')) fun (d : D) => cnd (ilt (ilen (len (D.es (D.f d 0)))) 2) (some (D.sl (empty (D.es (D.f d 0))) (D.es (D.f d 0)))) (Slots_l1 (Slots_ N k) (Sort_ N) N N 1 (D.es (D.f d 0)) [] (fun (t2l' t2n' : Nat) (o2' : List D) => some (D.sl (empty o2') (cut o2' t2l' t2n'))) (some (D.sl (empty (D.es (D.f d 0))) (D.es (D.f d 0)))))) (by omega) hG N 0 [D.int (D.n (D.f a 2))] (Nat.zero_le _) (by omega) (by simp only [List.length_singleton, List.drop_zero]; omega)
      simp only [List.length_singleton, List.drop_zero] at g1
      obtain ⟨r, g3, g4⟩ := Slots_end (G := Slots_ N k) hN o (by omega)
      exact ⟨r, g2.trans g3, by omega⟩
    | false =>
      rw [cnd_f]
      simp only [l3_l0, l4_l1]
      obtain ⟨o, g1, g2⟩ := Slots_l0_is (GS := Sort_ N) (N := N) (z := (a.f 1).nl) (k := fun (o2' : List D) => obind (Sort_ N (D.sl (empty o2') o2')) fun (d : D) => cnd (ilt (ilen (len (D.es (D.f d 0)))) 2) (some (D.sl (empty (D.es (D.f d 0))) (D.es (D.f d 0)))) (Slots_l1 (Slots_ N k) (Sort_ N) N N 1 (D.es (D.f d 0)) [] (fun (t2l' t2n' : Nat) (o2' : List D) => some (D.sl (empty o2') (cut o2' t2l' t2n'))) (some (D.sl (empty (D.es (D.f d 0))) (D.es (D.f d 0)))))) (by omega) hG N 0 [] (Nat.zero_le _) (by omega) (by simp only [List.length_nil, List.drop_zero]; omega)
      simp only [List.length_nil, List.drop_zero] at g1
      obtain ⟨r, g3, g4⟩ := Slots_end (G := Slots_ N k) hN o (by omega)
      exact ⟨r, g2.trans g3, by omega⟩

/-- A result of this form. -/
theorem binds_is {N : Nat} (hN : 16777217 ≤ N) (b t : D) (hs : sz t ≤ 16777215) : ∃ v, binds_ N b t = some (.bool v) := by
  obtain ⟨d, h1, h2⟩ := Slots_is hN N t (by omega) (by omega)
  unfold binds_ binds
  rw [h1, obind_s]
  rcases any_loop (fun n i => binds_l0 (Slots_ N N) N n d.nl d.es (ilen (len d.es)) i b.nl b.es t (fun (t4' : Int) => some (D.bool (bno (ile 0 t4')))) (some (D.bool true))) d.es.length
      (fun i => cnd (ilt (D.n (at_ d.es i)) 0) (some true) (cnd (ile (ilen (len b.es)) (D.n (at_ d.es i))) (some true) (cnd (inb (D.n (at_ d.es i)) (len b.es)) (some (bno (D.b (at_ b.es (tn (D.n (at_ d.es i))))))) none)))
      (fun (t4' : Int) => some (D.bool (bno (ile 0 t4')))) (some (D.bool true))
      (fun n i hi => by simp only [binds_l0, len_c, ilt_t hi, cnd_t, inb_t hi, tn_c, iadd_1 (show i < 2 ^ 62 by omega)])
      (fun n => by simp only [binds_l0, len_c, ilt_f, cnd_f])
      (fun i hi => by
        cases h1 : ilt (D.n (at_ d.es i)) 0 with
        | true => exact ⟨_, rfl⟩
        | false =>
          rw [cnd_f]
          cases h2 : ile (ilen (len b.es)) (D.n (at_ d.es i)) with
          | true => exact ⟨_, rfl⟩
          | false =>
            have := ilt_not h1
            have := ile_not h2
            rw [cnd_f, inb_in (by unfold ilen len at *; omega), cnd_t]
            exact ⟨_, rfl⟩) N 0 (Nat.zero_le _) (by omega) with ⟨_, g⟩ | ⟨j, _, _, _, g⟩
  · exact ⟨_, g⟩
  · exact ⟨_, g⟩

/-- A loop that asks of each element. -/
theorem Safe_is {N : Nat} (hN : 16777217 ≤ N) : ∀ (k : Nat) (a : D), sz a < k → sz a ≤ 16777216 → ∃ v, Safe_ N k a = some (.bool v)
  | 0, a, h, _ => by omega
  | k + 1, a, h, hs => by
    have hl := len_kids a 1
    have e : Safe_ N (k + 1) a = Safe (Safe_ N k) N a := rfl
    rw [e]
    unfold Safe
    have hb : ∃ b, (cnd (ile 12 (D.n (D.f a 0))) (cnd (ile (D.n (D.f a 0)) 16) (some true) (some (ieq (D.n (D.f a 0)) 18))) (some (ieq (D.n (D.f a 0)) 18))) = some b := by
      cases ile 12 (D.n (D.f a 0)) <;> cases ile (D.n (D.f a 0)) 16 <;> exact ⟨_, rfl⟩
    obtain ⟨b, hb⟩ := hb
    rw [hb, obind_s]
    cases b with
    | true => exact ⟨_, rfl⟩
    | false =>
      rw [bno_f, cnd_t]
      rcases any_loop (fun n i => Safe_l0 (Safe_ N k) N n (a.f 1).nl (a.f 1).es (ilen (len (a.f 1).es)) i a (fun (t4' : Int) => some (D.bool (bno (ile 0 t4')))) (some (D.bool true))) (a.f 1).es.length
          (fun i => obind (Safe_ N k (at_ (a.f 1).es i)) fun d => some (bno d.b)) (fun (t4' : Int) => some (D.bool (bno (ile 0 t4')))) (some (D.bool true))
          (fun n i hi => by
            have := sz_kid (at_mem hi)
            obtain ⟨v, hv⟩ := Safe_is hN k (at_ (a.f 1).es i) (by omega) (by omega)
            simp only [Safe_l0, len_c, ilt_t hi, cnd_t, inb_t hi, tn_c, iadd_1 (show i < 2 ^ 62 by omega), hv, obind_s])
          (fun n => by simp only [Safe_l0, len_c, ilt_f, cnd_f])
          (fun i hi => by
            have := sz_kid (at_mem hi)
            obtain ⟨v, hv⟩ := Safe_is hN k (at_ (a.f 1).es i) (by omega) (by omega)
            rw [hv]; exact ⟨_, rfl⟩) N 0 (Nat.zero_le _) (by omega) with ⟨_, g⟩ | ⟨j, _, _, _, g⟩
      · exact ⟨_, g⟩
      · exact ⟨_, g⟩

/-- Is a term one that cannot fail, as the residual tells? -/
noncomputable def sure (N : Nat) (t : D) : Bool := match Safe_ N N t with | some d => d.b | none => false
theorem sure_is {N : Nat} (hN : 16777217 ≤ N) (t : D) (hs : sz t ≤ 16777215) : Safe_ N N t = some (.bool (sure N t)) := by
  obtain ⟨v, hv⟩ := Safe_is hN N t (by omega) (by omega)
  unfold sure
  rw [hv]; rfl
theorem safe_is {N : Nat} (hN : 16777217 ≤ N) (p : D) (hs : sz p ≤ 16777215) : safe_ N p = some (.bool (ieq (p.f 0).n 6 && (p.f 5).es.all (sure N))) := by
  have hl := len_kids p 5
  unfold safe_ safe
  cases h : ieq (p.f 0).n 6 with
  | false => rfl
  | true =>
    rw [cnd_t, Bool.true_and]
    rcases any_loop (fun n i => safe_l0 (Safe_ N N) N n (p.f 5).nl (p.f 5).es (ilen (len (p.f 5).es)) i p (fun (t4' : Int) => some (D.bool (bno (ile 0 t4')))) (some (D.bool true))) (p.f 5).es.length
        (fun i => some (bno (sure N (at_ (p.f 5).es i)))) (fun (t4' : Int) => some (D.bool (bno (ile 0 t4')))) (some (D.bool true))
        (fun n i hi => by
          have := sz_kid (at_mem hi)
          simp only [safe_l0, len_c, ilt_t hi, cnd_t, inb_t hi, tn_c, iadd_1 (show i < 2 ^ 62 by omega), sure_is hN (at_ (p.f 5).es i) (by omega), obind_s, D.b])
        (fun n => by simp only [safe_l0, len_c, ilt_f, cnd_f])
        (fun i hi => ⟨_, rfl⟩) N 0 (Nat.zero_le _) (by omega) with ⟨h1, g⟩ | ⟨j, _, h2, h3, g⟩
    · refine g.trans ?_
      congr 2
      symm
      rw [List.all_eq_true]
      intro d hd
      obtain ⟨i, hi⟩ := List.mem_iff_getElem?.1 hd
      have := h1 i (Nat.zero_le _) (List.getElem?_eq_some_iff.1 hi).1
      simp only [at_, List.getD_eq_getElem?_getD, hi, Option.getD_some, Option.some.injEq] at this
      exact bno_not this
    · refine g.trans ?_
      rw [ile_in (by omega)]
      congr 2
      symm
      rw [bno_t, List.all_eq_false]
      exact ⟨_, at_mem h2, by rw [bno_is (Option.some.inj h3)]; simp⟩

theorem pattern_is {N : Nat} (hN : 16777217 ≤ N) (c : D) : ∃ v, pattern_ N c = some (.bool v) ∧ (v = true → 1 ≤ (c.f 0).es.length ∧ (c.f 0).es.length ≤ 8 ∧ (c.f 1).es.length ≤ 8 ∧ ∀ e ∈ (c.f 1).es, 0 ≤ (e.f 2).n ∧ (e.f 2).n < (c.f 0).es.length ∧ 0 ≤ (e.f 3).n ∧ (e.f 3).n < (c.f 0).es.length) := by
  unfold pattern_ pattern
  cases h1 : ile 1 (ilen (len (c.f 0).es)) with
  | false => exact ⟨false, rfl, fun h => by cases h⟩
  | true =>
    rw [cnd_t]
    cases h2 : ile (ilen (len (c.f 0).es)) 8 with
    | false => exact ⟨false, rfl, fun h => by cases h⟩
    | true =>
      rw [cnd_t]
      cases h3 : ile (ilen (len (c.f 1).es)) 8 with
      | false => exact ⟨false, rfl, fun h => by cases h⟩
      | true =>
        rw [cnd_t]
        have h1 := ile_is h1
        have h2 := ile_is h2
        have h3 := ile_is h3
        unfold ilen len at h1 h2 h3
        have hor : ∀ (x y : Bool), cnd x (some true) (some y) = some (x || y) := fun x y => by cases x <;> rfl
        rcases any_loop (fun n i => pattern_l0 N n (c.f 1).nl (c.f 1).es (ilen (len (c.f 1).es)) i c (ilen (len (c.f 0).es)) (fun (t4' : Int) => some (D.bool (bno (ile 0 t4')))) (some (D.bool true))) (c.f 1).es.length
            (fun i => some (ilt (isel (ilt (D.n (D.f (at_ (c.f 1).es i) 3)) (D.n (D.f (at_ (c.f 1).es i) 2))) (D.n (D.f (at_ (c.f 1).es i) 3)) (D.n (D.f (at_ (c.f 1).es i) 2))) 0 || ile (ilen (len (c.f 0).es)) (isel (ilt (D.n (D.f (at_ (c.f 1).es i) 2)) (D.n (D.f (at_ (c.f 1).es i) 3))) (D.n (D.f (at_ (c.f 1).es i) 3)) (D.n (D.f (at_ (c.f 1).es i) 2)))))
            (fun (t4' : Int) => some (D.bool (bno (ile 0 t4')))) (some (D.bool true))
            (fun n i hi => by simp only [pattern_l0, len_c, ilt_t hi, cnd_t, inb_t hi, tn_c, iadd_1 (show i < 2 ^ 62 by omega), hor])
            (fun n => by simp only [pattern_l0, len_c, ilt_f, cnd_f])
            (fun i hi => ⟨_, rfl⟩) N 0 (Nat.zero_le _) (by omega) with ⟨g1, g⟩ | ⟨j, _, _, _, g⟩
        · refine ⟨true, g, fun _ => ⟨by omega, by omega, by omega, fun e he => ?_⟩⟩
          obtain ⟨i, hi⟩ := List.mem_iff_getElem?.1 he
          have := g1 i (Nat.zero_le _) (List.getElem?_eq_some_iff.1 hi).1
          simp only [at_, List.getD_eq_getElem?_getD, hi, Option.getD_some, Option.some.injEq, Bool.or_eq_false_iff] at this
          obtain ⟨u1, u2⟩ := this
          have u1 := ilt_not u1
          have u2 := ile_not u2
          unfold ilen len at u2
          cases v1 : ilt (D.n (D.f e 3)) (D.n (D.f e 2)) with
          | true =>
            have w := ilt_is v1
            rw [v1] at u1
            rw [ilt_no (show ¬ (e.f 2).n < (e.f 3).n by omega)] at u2
            simp only [isel] at u1 u2
            omega
          | false =>
            have w := ilt_not v1
            rw [v1] at u1
            cases v2 : ilt (D.n (D.f e 2)) (D.n (D.f e 3)) with
            | true => rw [v2] at u2; simp only [isel] at u1 u2; have := ilt_is v2; omega
            | false => rw [v2] at u2; simp only [isel] at u1 u2; have := ilt_not v2; omega
        · exact ⟨_, g, fun h => by rw [ile_in (by omega)] at h; cases h⟩
end Go.Ev.S

namespace Go.Ev.S
open Go Go.Ev
set_option linter.unusedVariables false

/-- A pattern that is well made. -/
structure Pat (c : D) : Prop where
  one : 1 ≤ (c.f 0).es.length
  few : (c.f 0).es.length ≤ 8
  fewE : (c.f 1).es.length ≤ 8
  ends : ∀ e ∈ (c.f 1).es, 0 ≤ (e.f 2).n ∧ (e.f 2).n < (c.f 0).es.length ∧ 0 ≤ (e.f 3).n ∧ (e.f 3).n < (c.f 0).es.length
/-- What the walk over a plan is told. -/
noncomputable def ctx (c : D) : D := .st [c, .int (ilen (len (c.f 0).es))]
theorem ctx0 (c : D) : (ctx c).f 0 = c := rfl
theorem ctx1 (c : D) : ((ctx c).f 1).n = ilen (len (c.f 0).es) := rfl

theorem put_len (o : List D) (i : Nat) (x : D) : (put o i x).length = o.length := by simp [put]

theorem edge_is {N : Nat} {c : D} (P : Pat c) (p : D) (z : Bool) (b : List D) (hb : b.length = (c.f 0).es.length + (c.f 1).es.length) :
    ∃ v l, edge_ N (ctx c) p (.sl z b) = some (.st [.bool v, .sl false l]) ∧ l.length = b.length ∧ (v = true → (p.f 3).es.length = 1 ∧ 0 ≤ (at_ (p.f 3).es 0).n ∧ (at_ (p.f 3).es 0).n < (c.f 1).es.length) := by
  obtain ⟨p1, p2, p3, p4⟩ := P
  unfold edge_ edge
  rw [ctx0, ctx1]
  simp only [len_c, ilen_c, es_sl]
  generalize (p.f 3).es = es
  generalize hE : (c.f 1).es = E
  rw [hE] at p3 p4 hb
  generalize hn : (c.f 0).es.length = n at *
  have h1 : ∃ v, (cnd (bno (ieq (es.length : Int) 1)) (some true) (cnd (inb 0 es.length) (cnd (ilt (D.n (at_ es 0)) 0) (some true) (cnd (inb 0 es.length) (some (ile (E.length : Int) (D.n (at_ es 0)))) none)) none)) = some v ∧ (v = false → es.length = 1 ∧ 0 ≤ (at_ es 0).n ∧ (at_ es 0).n < E.length) := by
    cases h : ieq (es.length : Int) 1 with
    | false => exact ⟨true, rfl, fun h => by cases h⟩
    | true =>
      have h := ieq_is h
      rw [bno_t, cnd_f, inb_in (by omega), cnd_t, cnd_t]
      cases h2 : ilt (D.n (at_ es 0)) 0 with
      | true => exact ⟨true, rfl, fun h => by cases h⟩
      | false =>
        rw [cnd_f]
        refine ⟨_, rfl, fun h3 => ?_⟩
        have := ilt_not h2
        have := ile_not h3
        omega
  obtain ⟨v, h1, h2⟩ := h1
  rw [h1, obind_s]
  cases v with
  | true => exact ⟨false, _, rfl, rfl, fun h => by cases h⟩
  | false =>
    obtain ⟨g1, g2, g3⟩ := h2 rfl
    rw [cnd_f, inb_in (by omega), cnd_t, inb_in (by omega), cnd_t]
    have hm : at_ E (tn (at_ es 0).n) ∈ E := at_mem (by unfold tn; omega)
    obtain ⟨q1, q2, q3, q4⟩ := p4 _ hm
    have he : ∃ x y, ends_ N (at_ E (tn (at_ es 0).n)) (.bool (D.b (p.f 4))) = some (.st [.int x, .int y]) ∧ 0 ≤ x ∧ x < n ∧ 0 ≤ y ∧ y < n := by
      unfold ends_ ends
      cases (D.bool (D.b (p.f 4))).b with
      | true => exact ⟨_, _, rfl, q3, q4, q1, q2⟩
      | false => exact ⟨_, _, rfl, q1, q2, q3, q4⟩
    obtain ⟨x, y, e1, x1, x2, y1, y2⟩ := he
    rw [e1, obind_s]
    have ex : ((D.st [D.int x, D.int y]).f 0).n = x := rfl
    have ey : ((D.st [D.int x, D.int y]).f 1).n = y := rfl
    rw [ex, ey, iadd_in (by omega), inb_in (i := x) (by omega), cnd_t, inb_in (i := (n : Int) + _) (by omega), cnd_t, cnd_t, cnd_t, inb_in (i := y) (by omega), cnd_t]
    have h5 : ∀ (u w : Bool) (r : Bool), ∃ v, (cnd u (some true) (cnd w (some true) (some r))) = some v := fun u w r => by cases u <;> cases w <;> exact ⟨_, rfl⟩
    obtain ⟨v, h5⟩ := h5 (D.b (at_ b (tn ((n : Int) + (at_ es 0).n)))) (bno (D.b (at_ b (tn x)))) _
    rw [h5, obind_s]
    cases v with
    | true => exact ⟨false, _, rfl, rfl, fun h => by cases h⟩
    | false => exact ⟨_, _, rfl, by rw [put_len, put_len], fun _ => ⟨g1, g2, g3⟩⟩

theorem meetB_l0_is {N : Nat} {R : Type} {c p : D} (P : Pat c) {z : Bool} {es : List D} {k0 : Bool → List D → Option R} {k1 : List D → Option R} (hes : es.length ≤ 16777216) : ∀ (n i : Nat) (o : List D), o.length = (c.f 0).es.length + (c.f 1).es.length → i ≤ es.length → es.length - i < n →
    (∃ o', o'.length = o.length ∧ meetB_l0 N n z es (ilen (len es)) (i : Int) o (ctx c) p k0 k1 = k0 false o') ∨ ∃ o', o'.length = o.length ∧ meetB_l0 N n z es (ilen (len es)) (i : Int) o (ctx c) p k0 k1 = k1 o' ∧ ∀ j, i ≤ j → j < es.length → 0 ≤ (at_ es j).n ∧ (at_ es j).n < (c.f 1).es.length
  | 0, i, o, _, _, h => by omega
  | n + 1, i, o, ho, hi, h => by
    by_cases e : i = es.length
    · subst e
      exact .inr ⟨o, rfl, by simp only [meetB_l0, len_c, ilt_f, cnd_f], fun j h1 h2 => by omega⟩
    · have hlt : i < es.length := by omega
      have ih := meetB_l0_is (N := N) P (p := p) (z := z) (k0 := k0) (k1 := k1) hes n (i + 1)
      obtain ⟨p1, p2, p3, p4⟩ := P
      simp only [meetB_l0, len_c, ilt_t hlt, cnd_t, inb_t hlt, tn_c, iadd_1 (show i < 2 ^ 62 by omega), ctx0, ctx1]
      simp only [len_c] at ih
      generalize hE : (c.f 1).es = E at *
      generalize hn : (c.f 0).es.length = m at *
      generalize hx : (at_ es i).n = x
      simp only [ilen_c] at ih ⊢
      have h1 : ∃ v, (cnd (ilt x 0) (some true) (cnd (ile (E.length : Int) x) (some true) (cnd (inb (iadd IntKind.i64 (m : Int) x) o.length) (some (D.b (at_ o (tn (iadd IntKind.i64 (m : Int) x))))) none))) = some v ∧ (v = false → 0 ≤ x ∧ x < E.length) := by
        cases h1 : ilt x 0 with
        | true => exact ⟨true, rfl, fun h => by cases h⟩
        | false =>
          rw [cnd_f]
          cases h2 : ile (E.length : Int) x with
          | true => exact ⟨true, rfl, fun h => by cases h⟩
          | false =>
            have h1 := ilt_not h1
            have h2 := ile_not h2
            rw [cnd_f, iadd_in (by omega), inb_in (by omega), cnd_t]
            exact ⟨_, rfl, fun _ => by omega⟩
      obtain ⟨v, h1, h2⟩ := h1
      rw [h1, obind_s]
      cases v with
      | true => exact .inl ⟨_, rfl, rfl⟩
      | false =>
        obtain ⟨x1, x2⟩ := h2 rfl
        have hm : at_ E (tn x) ∈ E := at_mem (by unfold tn; omega)
        obtain ⟨q1, q2, q3, q4⟩ := p4 _ hm
        rw [cnd_f, inb_in (i := x) (by omega), cnd_t, iadd_in (by omega), inb_in (i := (m : Int) + x) (by omega), cnd_t, inb_in (i := ((at_ E (tn x)).f 3).n) (by omega), cnd_t, inb_in (i := ((at_ E (tn x)).f 2).n) (by omega), cnd_t]
        have h3 : ∀ (a b d e : Bool) , ∃ v, (cnd a (cnd b (some true) (cnd d (some e) (some false))) (cnd d (some e) (some false))) = some v := fun a b d e => by cases a <;> cases b <;> cases d <;> exact ⟨_, rfl⟩
        obtain ⟨v, h3⟩ := h3 (ieq ((at_ E (tn x)).f 2).n (p.f 2).n) (D.b (at_ o (tn ((at_ E (tn x)).f 3).n))) (ieq ((at_ E (tn x)).f 3).n (p.f 2).n) (D.b (at_ o (tn ((at_ E (tn x)).f 2).n)))
        rw [h3, obind_s]
        have h4 : ∀ (a b : Bool), ∃ v, (cnd a (some true) (some b)) = some v := fun a b => by cases a <;> exact ⟨_, rfl⟩
        obtain ⟨v', h4⟩ := h4 (bno v) (bno (ieq ((at_ E (tn x)).f 4).n 0))
        rw [h4, obind_s]
        cases v' with
        | true => exact .inl ⟨_, rfl, rfl⟩
        | false =>
          rw [cnd_f]
          have := ih (put o (tn ((m : Int) + x)) (.bool true)) (by rw [put_len, ho]) (by omega) (by omega)
          rw [put_len] at this
          refine this.imp (fun h => h) (fun ⟨o', q1, q2, q3⟩ => ⟨o', q1, q2, fun j j1 j2 => ?_⟩)
          by_cases e : j = i
          · subst e; rw [hx]; exact ⟨x1, x2⟩
          · exact q3 j (by omega) j2

theorem meetB_is {N : Nat} (hN : 16777217 ≤ N) {c : D} (P : Pat c) (p : D) (hp : sz p ≤ 16777215) (z : Bool) (b : List D) (hb : b.length = (c.f 0).es.length + (c.f 1).es.length) :
    ∃ v l, meetB_ N (ctx c) p (.sl z b) = some (.st [.bool v, .sl false l]) ∧ l.length = b.length ∧ (v = true → ∀ j, j < (p.f 3).es.length → 0 ≤ (at_ (p.f 3).es j).n ∧ (at_ (p.f 3).es j).n < (c.f 1).es.length) := by
  have hl := len_kids p 3
  have P' := P
  obtain ⟨p1, p2, p3, p4⟩ := P
  unfold meetB_ meetB
  rw [ctx1]
  simp only [es_sl]
  have h1 : ∃ v, (cnd (ilt (D.n (p.f 2)) 0) (some true) (cnd (ile (ilen (len (c.f 0).es)) (D.n (p.f 2))) (some true) (cnd (inb (D.n (p.f 2)) (len b)) (cnd (D.b (at_ b (tn (D.n (p.f 2))))) (some true) (some (ieq (ilen (len (p.f 3).es)) 0))) none))) = some v ∧ (v = false → 0 ≤ (p.f 2).n ∧ (p.f 2).n < (c.f 0).es.length) := by
    cases h1 : ilt (D.n (p.f 2)) 0 with
    | true => exact ⟨true, rfl, fun h => by cases h⟩
    | false =>
      rw [cnd_f]
      cases h2 : ile (ilen (len (c.f 0).es)) (D.n (p.f 2)) with
      | true => exact ⟨true, rfl, fun h => by cases h⟩
      | false =>
        have h1 := ilt_not h1
        have h2 := ile_not h2
        unfold ilen len at h2
        rw [cnd_f, inb_in (by unfold len; omega), cnd_t]
        cases D.b (at_ b (tn (D.n (p.f 2)))) with
        | true => exact ⟨_, rfl, fun h => by cases h⟩
        | false => exact ⟨_, rfl, fun _ => by omega⟩
  obtain ⟨v, h1, h2⟩ := h1
  rw [h1, obind_s]
  cases v with
  | true => exact ⟨false, _, rfl, rfl, fun h => by cases h⟩
  | false =>
    obtain ⟨g1, g2⟩ := h2 rfl
    rw [cnd_f]
    rcases meetB_l0_is (N := N) P' (p := p) (z := (p.f 3).nl) (es := (p.f 3).es) (k0 := fun (t6' : Bool) (o0' : List D) => some (D.st [D.bool t6', D.sl false o0'])) (k1 := fun (o0' : List D) => cnd (inb (D.n (p.f 2)) (len o0')) (some (D.st [D.bool true, D.sl false (put o0' (tn (D.n (p.f 2))) (D.bool true))])) none) (by omega) N 0 b hb (Nat.zero_le _) (by omega) with ⟨o, e1, e2⟩ | ⟨o, e1, e2, e3⟩
    · exact ⟨false, o, e2, e1, fun h => by cases h⟩
    · refine ⟨true, put o (tn (p.f 2).n) (.bool true), e2.trans ?_, by rw [put_len, e1], fun _ j hj => e3 j (Nat.zero_le _) hj⟩
      rw [inb_in (by unfold len; omega), cnd_t]
end Go.Ev.S

namespace Go.Ev.S
open Go Go.Ev
set_option linter.unusedVariables false

/-- Plans, by their form. -/
inductive Pl : D → Prop
  | mk {f0 f2 f3 f4 f5 : D} {nl : Bool} {ks : List D} (hn : nl = true → ks = []) (h : ∀ k ∈ ks, Pl k) : Pl (.st [f0, .sl nl ks, f2, f3, f4, f5])

-- the loops do not look into kids
variable {Gb : D → D → Option D} {X Y : D → D → Option D} {Ge Gm : D → D → D → Option D} {N : Nat}
theorem b1l3_same {R : Type} : ∀ (n : Nat) z (l : List D) a b c d e f g h (k0 : Int → Option R) k1, bound1_l3 Gb X Ge Gm N n z l a b c d e f g h k0 k1 = bound1_l3 Gb Y Ge Gm N n z l a b c d e f g h k0 k1
  | 0, _, _, _, _, _, _, _, _, _, _, _, _ => rfl
  | n + 1, z, l, a, b, c, d, e, f, g, h, k0, k1 => by simp only [bound1_l3, b1l3_same n]
theorem b2l2_same {R : Type} : ∀ (n : Nat) z a b c l r (k0 : Bool → List D → Option R), bound2_l2 Gb X Ge Gm N n z a b c l r k0 = bound2_l2 Gb Y Ge Gm N n z a b c l r k0
  | 0, _, _, _, _, _, _, _ => rfl
  | n + 1, z, a, b, c, l, r, k0 => by simp only [bound2_l2, b2l2_same n]

/-- What a plan with one kid binds. -/
noncomputable def kid1 (Gb : D → D → Option D) (Ge Gm : D → D → D → Option D) (N : Nat) (a p d : D) : Option D :=
  cnd d.nl (some (D.sl true []))
    (cnd (ieq (p.f 0).n 5) (obind (Gm a p (D.sl false d.es)) fun (d : D) => cnd (bno (D.b (D.f d 0))) (some (D.sl true [])) (some (D.sl false (D.es (D.f d 1)))))
      (cnd (ieq (p.f 0).n 6) (bound1_l3 Gb (fun _ _ => none) Ge Gm N N (D.nl (p.f 5)) (D.es (p.f 5)) (ilen (len (D.es (p.f 5)))) 0 a p [] (reps (tn (iadd IntKind.i64 (D.n (D.f a 1)) (ilen (len (D.es (D.f (D.f a 0) 1)))))) (D.bool false)) (at_ (p.f 1).es 0) (D.es d) (fun (t4' : Int) => cnd (bno (bno (ile 0 t4'))) (some (D.sl true [])) (some (D.sl false (D.es d)))) (some (D.sl false (D.es d))))
        (obind (Ge a p (D.sl false d.es)) fun (d : D) => cnd (bno (D.b (D.f d 0))) (some (D.sl true [])) (some (D.sl false (D.es (D.f d 1)))))))
/-- What a plan with two kids binds. -/
noncomputable def kid2 (Gb : D → D → Option D) (Ge Gm : D → D → D → Option D) (N : Nat) (a d e : D) : Option D :=
  cnd d.nl (some (D.sl true [])) (cnd e.nl (some (D.sl true [])) (bound2_l2 Gb (fun _ _ => none) Ge Gm N N true (ilen (len (D.es d))) 0 a (D.es d) (D.es e) fun (t13' : Bool) (o9' : List D) => cnd (bno t13') (some (D.sl true [])) (some (D.sl false o9'))))

theorem head_room {c : D} (P : Pat c) {α : Type} (x y z w : Option α) : (cnd (ile 0 (iadd IntKind.i64 (D.n (D.f (ctx c) 1)) (ilen (len (D.es (D.f (D.f (ctx c) 0) 1)))))) (cnd (ile (iadd IntKind.i64 (D.n (D.f (ctx c) 1)) (ilen (len (D.es (D.f (D.f (ctx c) 0) 1))))) (iadd IntKind.i64 (D.n (D.f (ctx c) 1)) (ilen (len (D.es (D.f (D.f (ctx c) 0) 1)))))) (cnd (room (tn (iadd IntKind.i64 (D.n (D.f (ctx c) 1)) (ilen (len (D.es (D.f (D.f (ctx c) 0) 1)))))) 1) x y) z) w) = x := by
  obtain ⟨p1, p2, p3, p4⟩ := P
  rw [ctx0, ctx1]
  unfold ilen len
  rw [iadd_in (by omega), ile_in (by omega), cnd_t, ile_in (Int.le_refl _), cnd_t, room_in (by unfold tn; omega) (by unfold tn; omega), cnd_t]
theorem size_is {c : D} (P : Pat c) : tn (iadd IntKind.i64 (D.n (D.f (ctx c) 1)) (ilen (len (D.es (D.f (D.f (ctx c) 0) 1))))) = (c.f 0).es.length + (c.f 1).es.length := by
  obtain ⟨p1, p2, p3, p4⟩ := P
  rw [ctx0, ctx1]
  unfold ilen len
  rw [iadd_in (by omega)]
  unfold tn; omega

theorem bound0_is {c : D} (P : Pat c) (f0 f2 f3 f4 f5 : D) (nl : Bool) : (f0.n ≠ 1 ∧ bound0 Gb X Ge Gm N (ctx c) f0 f2 f3 f4 f5 nl = some (.sl true [])) ∨
    f0.n = 1 ∧ ∃ r, bound0 Gb X Ge Gm N (ctx c) f0 f2 f3 f4 f5 nl = some r ∧ bound0 Gb Y Ge Gm N (ctx c) f0 f2 f3 f4 f5 nl = some r ∧ (r = .sl true [] ∨ ∃ b, r = .sl false b ∧ b.length = (c.f 0).es.length + (c.f 1).es.length) := by
  by_cases h1 : f0.n = 1
  · right
    refine ⟨h1, ?_⟩
    have hs := size_is P
    unfold bound0
    rw [h1]
    rw [show (cnd (bno (bsel (ieq 1 1) true (bsel (ieq 1 2) true (bsel (ieq 1 3) true (bsel (ieq 1 4) true (bsel (ieq 1 5) true (bsel (ieq 1 6) true false))))))) (some true) (some (bno (ieq (isel (ieq 1 1) 0 (isel (ieq 1 2) 1 (isel (ieq 1 3) 1 (isel (ieq 1 4) 2 (isel (ieq 1 5) 1 (isel (ieq 1 6) 1 0)))))) 0)))) = some false from rfl, obind_s, obind_s, cnd_f, cnd_f, head_room P, head_room P, hs, show ieq 1 1 = true from rfl, cnd_t, cnd_t]
    cases h2 : ile 0 f2.n with
    | false => rw [cnd_f, obind_s]; exact ⟨_, rfl, rfl, .inl rfl⟩
    | true =>
      rw [cnd_t]
      cases h3 : ilt f2.n ((ctx c).f 1).n with
      | false => rw [obind_s]; exact ⟨_, rfl, rfl, .inl rfl⟩
      | true =>
        have h2 := ile_is h2
        have h3 := ilt_is h3
        rw [ctx1] at h3
        unfold ilen len at h3
        rw [obind_s, cnd_t, inb_in (by unfold len reps; rw [List.length_replicate]; omega)]
        exact ⟨_, rfl, rfl, .inr ⟨_, rfl, by rw [put_len]; simp [reps]⟩⟩
  · left
    refine ⟨h1, ?_⟩
    unfold bound0
    by_cases h2 : f0.n = 2
    · rw [h2]; rfl
    by_cases h3 : f0.n = 3
    · rw [h3]; rfl
    by_cases h4 : f0.n = 4
    · rw [h4]; rfl
    by_cases h5 : f0.n = 5
    · rw [h5]; rfl
    by_cases h6 : f0.n = 6
    · rw [h6]; rfl
    simp only [ieq_no h1, ieq_no h2, ieq_no h3, ieq_no h4, ieq_no h5, ieq_no h6]
    rfl

theorem bound1_is {c : D} (P : Pat c) (f0 k0 f2 f3 f4 f5 : D) (nl : Bool) : ((f0.n ≠ 2 ∧ f0.n ≠ 3 ∧ f0.n ≠ 5 ∧ f0.n ≠ 6) ∧ bound1 Gb X Ge Gm N (ctx c) f0 k0 f2 f3 f4 f5 nl = some (.sl true [])) ∨
    ((f0.n = 2 ∨ f0.n = 3 ∨ f0.n = 5 ∨ f0.n = 6) ∧ bound1 Gb X Ge Gm N (ctx c) f0 k0 f2 f3 f4 f5 nl = obind (X (ctx c) k0) fun d => kid1 Gb Ge Gm N (ctx c) (.st [f0, .sl nl [k0], f2, f3, f4, f5]) d) := by
  have e0 : ((D.st [f0, .sl nl [k0], f2, f3, f4, f5]).f 0) = f0 := rfl
  have e5 : ((D.st [f0, .sl nl [k0], f2, f3, f4, f5]).f 5) = f5 := rfl
  have e1 : at_ ((D.st [f0, .sl nl [k0], f2, f3, f4, f5]).f 1).es 0 = k0 := rfl
  by_cases h2 : f0.n = 2
  · right
    refine ⟨.inl h2, ?_⟩
    unfold bound1 kid1
    rw [e0, h2]
    refine (obind_s _ _).trans ?_
    refine (cnd_f _ _).trans ?_
    rw [head_room P]
    rfl
  by_cases h3 : f0.n = 3
  · right
    refine ⟨.inr (.inl h3), ?_⟩
    unfold bound1 kid1
    rw [e0, h3]
    refine (obind_s _ _).trans ?_
    refine (cnd_f _ _).trans ?_
    rw [head_room P]
    rfl
  by_cases h5 : f0.n = 5
  · right
    refine ⟨.inr (.inr (.inl h5)), ?_⟩
    unfold bound1 kid1
    rw [e0, h5]
    refine (obind_s _ _).trans ?_
    refine (cnd_f _ _).trans ?_
    rw [head_room P]
    rfl
  by_cases h6 : f0.n = 6
  · right
    refine ⟨.inr (.inr (.inr h6)), ?_⟩
    unfold bound1 kid1
    rw [e0, h6]
    refine (obind_s _ _).trans ?_
    refine (cnd_f _ _).trans ?_
    rw [head_room P]
    simp only [b1l3_same (X := X) (Y := fun _ _ => none)]
    rfl
  left
  refine ⟨⟨h2, h3, h5, h6⟩, ?_⟩
  unfold bound1
  by_cases h1 : f0.n = 1
  · rw [h1]; rfl
  by_cases h4 : f0.n = 4
  · rw [h4]; rfl
  simp only [ieq_no h1, ieq_no h2, ieq_no h3, ieq_no h4, ieq_no h5, ieq_no h6]
  rfl

theorem bound2_is {c : D} (P : Pat c) (f0 k0 k1 f2 f3 f4 f5 : D) (nl : Bool) : (f0.n ≠ 4 ∧ bound2 Gb X Ge Gm N (ctx c) f0 k0 k1 f2 f3 f4 f5 nl = some (.sl true [])) ∨
    (f0.n = 4 ∧ bound2 Gb X Ge Gm N (ctx c) f0 k0 k1 f2 f3 f4 f5 nl = obind (X (ctx c) k0) fun d => cnd d.nl (some (D.sl true [])) (obind (X (ctx c) k1) fun e => kid2 Gb Ge Gm N (ctx c) d e)) := by
  by_cases h4 : f0.n = 4
  · right
    refine ⟨h4, ?_⟩
    unfold bound2 kid2
    rw [h4]
    refine (obind_s _ _).trans ?_
    refine (cnd_f _ _).trans ?_
    rw [head_room P]
    simp only [b2l2_same (X := X) (Y := fun _ _ => none)]
    congr 1
    funext d
    cases d.nl with
    | true => rfl
    | false => rfl
  left
  refine ⟨h4, ?_⟩
  unfold bound2
  by_cases h1 : f0.n = 1
  · rw [h1]; rfl
  by_cases h2 : f0.n = 2
  · rw [h2]; rfl
  by_cases h3 : f0.n = 3
  · rw [h3]; rfl
  by_cases h5 : f0.n = 5
  · rw [h5]; rfl
  by_cases h6 : f0.n = 6
  · rw [h6]; rfl
  simp only [ieq_no h1, ieq_no h2, ieq_no h3, ieq_no h4, ieq_no h5, ieq_no h6]
  rfl

theorem boundG_is (a b : D) (h : 3 ≤ (b.f 1).es.length) : boundG Gb X Ge Gm N a b = some (.sl true []) := by
  unfold boundG
  have : ∀ o : Int, (cnd (bno (bsel (ieq o 1) true (bsel (ieq o 2) true (bsel (ieq o 3) true (bsel (ieq o 4) true (bsel (ieq o 5) true (bsel (ieq o 6) true false))))))) (some true) (some (bno (ieq (isel (ieq o 1) 0 (isel (ieq o 2) 1 (isel (ieq o 3) 1 (isel (ieq o 4) 2 (isel (ieq o 5) 1 (isel (ieq o 6) 1 0)))))) (ilen (len (D.es (D.f b 1)))))))) = some true := fun o => by
    have hk : ∀ x : Int, x ≤ 2 → ieq x (ilen (len (D.es (D.f b 1)))) = false := fun x hx => ieq_no (by unfold ilen len; omega)
    cases bno (bsel (ieq o 1) true (bsel (ieq o 2) true (bsel (ieq o 3) true (bsel (ieq o 4) true (bsel (ieq o 5) true (bsel (ieq o 6) true false)))))) with
    | true => rfl
    | false =>
      rw [cnd_f, hk]
      · rfl
      · cases ieq o 1 <;> cases ieq o 2 <;> cases ieq o 3 <;> cases ieq o 4 <;> cases ieq o 5 <;> cases ieq o 6 <;> simp [isel]
  rw [this, obind_s, cnd_t]
end Go.Ev.S

namespace Go.Ev.S
open Go Go.Ev
set_option linter.unusedVariables false

/-- Do all these terms find their slots bound? -/
noncomputable def bnds (N : Nat) (b : List D) (t : D) : Bool := match binds_ N (.sl false b) t with | some d => d.b | none => false
theorem bnds_is {N : Nat} (hN : 16777217 ≤ N) (b : List D) (t : D) (hs : sz t ≤ 16777215) : binds_ N (.sl false b) t = some (.bool (bnds N b t)) := by
  obtain ⟨v, hv⟩ := binds_is hN (.sl false b) t hs
  unfold bnds
  rw [hv]; rfl

/-- The answer of 'bound': nil, or a list of truths of the right length. -/
def Fine (c r : D) : Prop := r = .sl true [] ∨ ∃ b, r = .sl false b ∧ b.length = (c.f 0).es.length + (c.f 1).es.length

theorem filt_is {N : Nat} (hN : 16777217 ≤ N) {X : D → D → Option D} {Ge Gm : D → D → D → Option D} (p : D) (hp : sz p ≤ 16777215) {a : D} {u : List D} {k : D} {b w : List D} {k0 : Int → Option D} {k1 : Option D} (hk0 : ∀ j : Nat, k0 j = some (.sl true [])) (hk1 : k1 = some (.sl false b)) :
    bound1_l3 (binds_ N) X Ge Gm N N (p.f 5).nl (p.f 5).es (ilen (len (p.f 5).es)) 0 a p u w k b k0 k1 = some (if (p.f 5).es.all (bnds N b) then .sl false b else .sl true []) := by
  have hl := len_kids p 5
  rcases any_loop (fun n i => bound1_l3 (binds_ N) X Ge Gm N n (p.f 5).nl (p.f 5).es (ilen (len (p.f 5).es)) i a p u w k b k0 k1) (p.f 5).es.length
      (fun i => some (bno (bnds N b (at_ (p.f 5).es i)))) k0 k1
      (fun n i hi => by
        have := sz_kid (at_mem hi)
        simp only [bound1_l3, len_c, ilt_t hi, cnd_t, inb_t hi, tn_c, iadd_1 (show i < 2 ^ 62 by omega), bnds_is hN b (at_ (p.f 5).es i) (by omega), obind_s, b_bool])
      (fun n => by simp only [bound1_l3, len_c, ilt_f, cnd_f])
      (fun i hi => ⟨_, rfl⟩) N 0 (Nat.zero_le _) (by omega) with ⟨h1, g⟩ | ⟨j, _, h2, h3, g⟩
  · refine g.trans ?_
    rw [hk1, if_pos]
    rw [List.all_eq_true]
    intro d hd
    obtain ⟨i, hi⟩ := List.mem_iff_getElem?.1 hd
    have := h1 i (Nat.zero_le _) (List.getElem?_eq_some_iff.1 hi).1
    simp only [at_, List.getD_eq_getElem?_getD, hi, Option.getD_some, Option.some.injEq] at this
    exact bno_not this
  · refine g.trans ?_
    rw [hk0, if_neg]
    rw [List.all_eq_true]
    intro h
    have := h _ (at_mem h2)
    rw [bno_is (Option.some.inj h3)] at this
    cases this

/-- Two lists that bind nothing twice. -/
def apart (n : Nat) (l r : List D) : Prop := ∀ i, n ≤ i → i < l.length → ¬ ((at_ l i).b = true ∧ (at_ r i).b = true)
theorem at_put_ne {o : List D} {i j : Nat} {x : D} (h : i ≠ j) : at_ (put o i x) j = at_ o j := by
  unfold at_ put
  rw [List.getD_eq_getElem?_getD, List.getD_eq_getElem?_getD, List.getElem?_set_ne h]

theorem join_l2_is {Gb X : D → D → Option D} {Ge Gm : D → D → D → Option D} {N : Nat} {a : D} {n0 : Nat} (ha : (a.f 1).n = (n0 : Int)) {l : List D} (hl : l.length ≤ 16777216) {k : Bool → List D → Option D} : ∀ (n i : Nat) (o : List D) (z : Bool), o.length = l.length → i ≤ l.length → l.length - i < n →
    ∃ z' o', o'.length = l.length ∧ bound2_l2 Gb X Ge Gm N n z (ilen (len l)) (i : Int) a l o k = k z' o' ∧ (z' = true ↔ z = true ∧ ∀ j, i ≤ j → n0 ≤ j → j < l.length → ¬ ((at_ l j).b = true ∧ (at_ o j).b = true))
  | 0, i, o, z, _, _, h => by omega
  | n + 1, i, o, z, ho, hi, h => by
    by_cases e : i = l.length
    · subst e
      exact ⟨z, o, ho, by simp only [bound2_l2, len_c, ilt_f, cnd_f], fun h => ⟨h, fun j _ _ _ => by omega⟩, fun h => h.1⟩
    · have hlt : i < l.length := by omega
      have hlo : i < o.length := by omega
      simp only [bound2_l2, len_c, ilt_t hlt, cnd_t, inb_t hlt, inb_t hlo, tn_c, iadd_1 (show i < 2 ^ 62 by omega), ha]
      have hb : (cnd z (cnd (D.b (at_ l i)) (cnd (D.b (at_ o i)) (some (bno (ile (n0 : Int) (i : Int)))) (some true)) (some true)) (some false)) = some (z && !((at_ l i).b && (at_ o i).b && decide (n0 ≤ i))) := by
        have : ile (n0 : Int) (i : Int) = decide (n0 ≤ i) := by unfold ile; exact decide_eq_decide.2 (by omega)
        rw [this, bno_c]
        cases z <;> cases (at_ l i).b <;> cases (at_ o i).b <;> rfl
      rw [hb, obind_s]
      have hx : ∀ x y : D, ∀ (F : D → Option D), (cnd (D.b (at_ o i)) (F x) (F y)) = F (cnd (D.b (at_ o i)) x y) := fun x y F => by cases D.b (at_ o i) <;> rfl
      rw [hx _ _ (fun x => bound2_l2 Gb X Ge Gm N n _ _ _ a l (put o i x) k)]
      generalize cnd (D.b (at_ o i)) _ _ = x
      obtain ⟨z', o', g1, g2, g3⟩ := join_l2_is (Gb := Gb) (X := X) (Ge := Ge) (Gm := Gm) (N := N) ha hl (k := k) n (i + 1) (put o i x) (z && !((at_ l i).b && (at_ o i).b && decide (n0 ≤ i))) (by rw [put_len, ho]) (by omega) (by omega)
      refine ⟨z', o', g1, g2, g3.trans ?_⟩
      constructor
      · rintro ⟨h1, h2⟩
        rw [Bool.and_eq_true] at h1
        refine ⟨h1.1, fun j j1 j2 j3 => ?_⟩
        by_cases e : j = i
        · subst e
          rintro ⟨u, v⟩
          have := h1.2
          rw [u, v, decide_eq_true j2] at this
          cases this
        · have := h2 j (by omega) j2 j3
          rwa [at_put_ne (by omega)] at this
      · rintro ⟨h1, h2⟩
        refine ⟨?_, fun j j1 j2 j3 => ?_⟩
        · rw [h1, Bool.true_and, Bool.not_eq_true']
          rw [Bool.eq_false_iff]
          intro h3
          rw [Bool.and_eq_true, Bool.and_eq_true] at h3
          exact h2 i (Nat.le_refl _) (of_decide_eq_true h3.2) hlt h3.1
        · rw [at_put_ne (by omega)]
          exact h2 j (by omega) j2 j3

theorem kid2_is {N : Nat} (hN : 16777217 ≤ N) {Gb : D → D → Option D} {Ge Gm : D → D → D → Option D} {c : D} (P : Pat c) {d e : D} (hd : Fine c d) (he : Fine c e) :
    ∃ r, kid2 Gb Ge Gm N (ctx c) d e = some r ∧ Fine c r ∧ (r.nl = false ↔ d.nl = false ∧ e.nl = false ∧ apart (c.f 0).es.length d.es e.es) := by
  obtain ⟨p1, p2, p3, p4⟩ := P
  unfold kid2
  rcases hd with rfl | ⟨l, rfl, hl⟩
  · exact ⟨_, rfl, .inl rfl, ⟨fun h => (by cases h), fun h => (by cases h.1)⟩⟩
  rcases he with rfl | ⟨o, rfl, ho⟩
  · exact ⟨_, rfl, .inl rfl, ⟨fun h => (by cases h), fun h => (by cases h.2.1)⟩⟩
  simp only [nl_sl, es_sl, cnd_f]
  obtain ⟨z, o', g1, g2, g3⟩ := join_l2_is (Gb := Gb) (X := fun _ _ => none) (Ge := Ge) (Gm := Gm) (N := N) (a := ctx c) (n0 := (c.f 0).es.length) rfl (l := l) (by omega) (k := fun (t13' : Bool) (o9' : List D) => cnd (bno t13') (some (D.sl true [])) (some (D.sl false o9'))) N 0 o true (by omega) (Nat.zero_le _) (by omega)
  refine ⟨_, g2.trans (show _ = some (cnd (bno z) (D.sl true []) (D.sl false o')) from by cases z <;> rfl), ?_, ?_⟩
  · cases z with
    | true => exact .inr ⟨o', rfl, by omega⟩
    | false => exact .inl rfl
  · cases z with
    | true => exact ⟨fun _ => ⟨trivial, trivial, fun i h1 h2 => (g3.1 rfl).2 i (Nat.zero_le _) h1 h2⟩, fun _ => rfl⟩
    | false => exact ⟨fun h => (by cases h), fun h => (by have := g3.2 ⟨rfl, fun j _ j2 j3 => h.2.2 j j2 j3⟩; cases this)⟩

theorem apart_symm {n : Nat} {l r : List D} (h : l.length = r.length) (ha : apart n l r) : apart n r l := fun i h1 h2 h3 => ha i h1 (by omega) ⟨h3.2, h3.1⟩

theorem kid1_is {N : Nat} (hN : 16777217 ≤ N) {c : D} (P : Pat c) (p : D) (hp : sz p ≤ 16777215) {d : D} (hd : Fine c d) :
    ∃ r, kid1 (binds_ N) (edge_ N) (meetB_ N) N (ctx c) p d = some r ∧ Fine c r ∧ ((p.f 0).n = 6 → r = if d.nl = false ∧ (p.f 5).es.all (bnds N d.es) = true then d else .sl true []) ∧
      ((p.f 0).n = 5 → r.nl = false → ∀ j, j < (p.f 3).es.length → 0 ≤ (at_ (p.f 3).es j).n ∧ (at_ (p.f 3).es j).n < (c.f 1).es.length) ∧
      ((p.f 0).n ≠ 5 → (p.f 0).n ≠ 6 → r.nl = false → (p.f 3).es.length = 1 ∧ 0 ≤ (at_ (p.f 3).es 0).n ∧ (at_ (p.f 3).es 0).n < (c.f 1).es.length) := by
  unfold kid1
  rcases hd with rfl | ⟨b, rfl, hb⟩
  · exact ⟨_, rfl, .inl rfl, fun _ => (by rw [if_neg (fun h => by cases h.1)]), fun _ h => (by cases h), fun _ _ h => (by cases h)⟩
  simp only [nl_sl, es_sl, cnd_f]
  have hend : ∀ {x : Option D} {Q : Prop}, (∃ v l, x = some (.st [.bool v, .sl false l]) ∧ l.length = b.length ∧ (v = true → Q)) → ∃ r, (obind x fun (d : D) => cnd (bno (D.b (D.f d 0))) (some (D.sl true [])) (some (D.sl false (D.es (D.f d 1))))) = some r ∧ Fine c r ∧ (r.nl = false → Q) := by
    rintro x Q ⟨v, l, rfl, hl, hq⟩
    cases v with
    | true => exact ⟨_, rfl, .inr ⟨l, rfl, by omega⟩, fun _ => hq rfl⟩
    | false => exact ⟨_, rfl, .inl rfl, fun h => by cases h⟩
  by_cases h5 : (p.f 0).n = 5
  · obtain ⟨r, h1, h2, h3⟩ := hend (meetB_is hN P p hp false b hb)
    rw [ieq_in h5, cnd_t]
    exact ⟨r, h1, h2, fun h => absurd (h5.symm.trans h) (by decide), fun _ h => h3 h, fun h => absurd h5 h⟩
  rw [ieq_no h5, cnd_f]
  by_cases h6 : (p.f 0).n = 6
  · rw [ieq_in h6, cnd_t, filt_is hN p hp (hk0 := fun j => by rw [ile_in (by omega)]; rfl) (hk1 := rfl)]
    refine ⟨_, rfl, ?_, fun _ => ?_, fun h => absurd h h5, fun _ h => absurd h6 h⟩
    · split
      · exact .inr ⟨b, rfl, hb⟩
      · exact .inl rfl
    · by_cases hall : (p.f 5).es.all (bnds N b) = true
      · rw [if_pos hall, if_pos ⟨trivial, hall⟩]
      · rw [if_neg hall, if_neg (fun h => hall h.2)]
  · rw [ieq_no h6, cnd_f]
    obtain ⟨r, h1, h2, h3⟩ := hend (edge_is (N := N) P p false b hb)
    exact ⟨r, h1, h2, fun h => absurd h h6, fun h => absurd h h5, fun _ _ h => h3 h⟩

theorem sz_sub {f0 f2 f3 f4 f5 : D} {nl : Bool} {ks : List D} {k : D} (h : k ∈ ks) : sz k < sz (.st [f0, .sl nl ks, f2, f3, f4, f5]) := sz_kid (d := .st [f0, .sl nl ks, f2, f3, f4, f5]) (i := 1) h

theorem bound_is {N : Nat} (hN : 16777217 ≤ N) {c : D} (P : Pat c) : ∀ (k : Nat) (p : D), Pl p → sz p < k → sz p ≤ 16777215 → ∃ r, bound_ N k (ctx c) p = some r ∧ Fine c r ∧ ∀ k', sz p < k' → bound_ N k' (ctx c) p = some r
  | 0, p, _, h, _ => by omega
  | k + 1, p, hp, h, hs => by
    obtain ⟨hn, hks⟩ := hp
    rename_i f0 f2 f3 f4 f5 nl ks
    have kid : ∀ x ∈ ks, ∃ r, bound_ N k (ctx c) x = some r ∧ Fine c r ∧ ∀ k', sz x < k' → bound_ N k' (ctx c) x = some r := fun x hx => by
      have := sz_sub (f0 := f0) (f2 := f2) (f3 := f3) (f4 := f4) (f5 := f5) (nl := nl) hx
      exact bound_is hN P k x (hks x hx) (by omega) (by omega)
    have e : ∀ k p, bound_ N (k + 1) (ctx c) p = bound (binds_ N) (bound_ N k) (edge_ N) (meetB_ N) N (ctx c) p := fun _ _ => rfl
    match ks, hks, kid, h, hs with
    | [], hks, kid, h, hs =>
      have e0 : ∀ k, bound_ N (k + 1) (ctx c) (.st [f0, .sl nl [], f2, f3, f4, f5]) = bound0 (binds_ N) (bound_ N k) (edge_ N) (meetB_ N) N (ctx c) f0 f2 f3 f4 f5 nl := fun _ => rfl
      rcases bound0_is (Gb := binds_ N) (X := bound_ N k) (Y := bound_ N k) (Ge := edge_ N) (Gm := meetB_ N) (N := N) P f0 f2 f3 f4 f5 nl with ⟨h1, g⟩ | ⟨_, r, h1, _, h3⟩
      · refine ⟨_, (e0 k).trans g, .inl rfl, fun k' hk' => ?_⟩
        obtain ⟨k', rfl⟩ : ∃ j, k' = j + 1 := ⟨k' - 1, by omega⟩
        rw [e0]
        rcases bound0_is (Gb := binds_ N) (X := bound_ N k') (Y := bound_ N k) (Ge := edge_ N) (Gm := meetB_ N) (N := N) P f0 f2 f3 f4 f5 nl with ⟨_, g⟩ | ⟨_, r, g1, g2, _⟩
        · exact g
        · rw [g1, ← g2, g]
      · refine ⟨r, (e0 k).trans h1, h3, fun k' hk' => ?_⟩
        obtain ⟨k', rfl⟩ : ∃ j, k' = j + 1 := ⟨k' - 1, by omega⟩
        rw [e0]
        rcases bound0_is (Gb := binds_ N) (X := bound_ N k) (Y := bound_ N k') (Ge := edge_ N) (Gm := meetB_ N) (N := N) P f0 f2 f3 f4 f5 nl with ⟨u, g⟩ | ⟨_, r', g1, g2, _⟩
        · rw [g] at h1
          rcases bound0_is (Gb := binds_ N) (X := bound_ N k') (Y := bound_ N k) (Ge := edge_ N) (Gm := meetB_ N) (N := N) P f0 f2 f3 f4 f5 nl with ⟨_, g⟩ | ⟨_, r', g1, g2, _⟩
          · rw [g, h1]
          · rw [g1, ← g2, g, h1]
        · rw [g2, ← g1, h1]
    | [x], hks, kid, h, hs =>
      obtain ⟨d, d1, d2, d3⟩ := kid x (List.mem_singleton.2 rfl)
      have hx := sz_sub (f0 := f0) (f2 := f2) (f3 := f3) (f4 := f4) (f5 := f5) (nl := nl) (List.mem_singleton.2 rfl : x ∈ [x])
      have e1 : ∀ k, bound_ N (k + 1) (ctx c) (.st [f0, .sl nl [x], f2, f3, f4, f5]) = bound1 (binds_ N) (bound_ N k) (edge_ N) (meetB_ N) N (ctx c) f0 x f2 f3 f4 f5 nl := fun _ => rfl
      obtain ⟨r, r1, r2, _⟩ := kid1_is hN P (.st [f0, .sl nl [x], f2, f3, f4, f5]) hs d2
      have all : ∀ j, bound_ N j (ctx c) x = some d → ((f0.n ≠ 2 ∧ f0.n ≠ 3 ∧ f0.n ≠ 5 ∧ f0.n ≠ 6) → bound_ N (j + 1) (ctx c) (.st [f0, .sl nl [x], f2, f3, f4, f5]) = some (.sl true [])) ∧ (¬ (f0.n ≠ 2 ∧ f0.n ≠ 3 ∧ f0.n ≠ 5 ∧ f0.n ≠ 6) → bound_ N (j + 1) (ctx c) (.st [f0, .sl nl [x], f2, f3, f4, f5]) = some r) := fun j hj => by
        rw [e1]
        rcases bound1_is (Gb := binds_ N) (X := bound_ N j) (Ge := edge_ N) (Gm := meetB_ N) (N := N) P f0 x f2 f3 f4 f5 nl with ⟨h1, g⟩ | ⟨h1, g⟩
        · exact ⟨fun _ => g, fun h => absurd h1 h⟩
        · exact ⟨fun h => by omega, fun _ => by rw [g, hj, obind_s, r1]⟩
      by_cases hop : f0.n ≠ 2 ∧ f0.n ≠ 3 ∧ f0.n ≠ 5 ∧ f0.n ≠ 6
      · refine ⟨_, (all k d1).1 hop, .inl rfl, fun k' hk' => ?_⟩
        obtain ⟨k', rfl⟩ : ∃ j, k' = j + 1 := ⟨k' - 1, by omega⟩
        exact (all k' (d3 k' (by omega))).1 hop
      · refine ⟨_, (all k d1).2 hop, r2, fun k' hk' => ?_⟩
        obtain ⟨k', rfl⟩ : ∃ j, k' = j + 1 := ⟨k' - 1, by omega⟩
        exact (all k' (d3 k' (by omega))).2 hop
    | [x, y], hks, kid, h, hs =>
      obtain ⟨d, d1, d2, d3⟩ := kid x (by simp)
      obtain ⟨e, e1, e2, e3⟩ := kid y (by simp)
      have hx := sz_sub (f0 := f0) (f2 := f2) (f3 := f3) (f4 := f4) (f5 := f5) (nl := nl) (by simp : x ∈ [x, y])
      have hy := sz_sub (f0 := f0) (f2 := f2) (f3 := f3) (f4 := f4) (f5 := f5) (nl := nl) (by simp : y ∈ [x, y])
      have e4 : ∀ k, bound_ N (k + 1) (ctx c) (.st [f0, .sl nl [x, y], f2, f3, f4, f5]) = bound2 (binds_ N) (bound_ N k) (edge_ N) (meetB_ N) N (ctx c) f0 x y f2 f3 f4 f5 nl := fun _ => rfl
      obtain ⟨r, r1, r2, _⟩ := kid2_is hN (Gb := binds_ N) (Ge := edge_ N) (Gm := meetB_ N) P d2 e2
      have r3 : (cnd d.nl (some (D.sl true [])) (kid2 (binds_ N) (edge_ N) (meetB_ N) N (ctx c) d e)) = some r := by
        rw [← r1]; unfold kid2; cases d.nl <;> rfl
      have all : ∀ j, bound_ N j (ctx c) x = some d → bound_ N j (ctx c) y = some e → (f0.n ≠ 4 → bound_ N (j + 1) (ctx c) (.st [f0, .sl nl [x, y], f2, f3, f4, f5]) = some (.sl true [])) ∧ (f0.n = 4 → bound_ N (j + 1) (ctx c) (.st [f0, .sl nl [x, y], f2, f3, f4, f5]) = some r) := fun j hj hj' => by
        rw [e4]
        rcases bound2_is (Gb := binds_ N) (X := bound_ N j) (Ge := edge_ N) (Gm := meetB_ N) (N := N) P f0 x y f2 f3 f4 f5 nl with ⟨h1, g⟩ | ⟨h1, g⟩
        · exact ⟨fun _ => g, fun h => absurd h h1⟩
        · exact ⟨fun h => absurd h1 h, fun _ => by rw [g, hj, obind_s, hj', obind_s, r3]⟩
      by_cases hop : f0.n = 4
      · refine ⟨_, (all k d1 e1).2 hop, r2, fun k' hk' => ?_⟩
        obtain ⟨k', rfl⟩ : ∃ j, k' = j + 1 := ⟨k' - 1, by omega⟩
        exact (all k' (d3 k' (by omega)) (e3 k' (by omega))).2 hop
      · refine ⟨_, (all k d1 e1).1 hop, .inl rfl, fun k' hk' => ?_⟩
        obtain ⟨k', rfl⟩ : ∃ j, k' = j + 1 := ⟨k' - 1, by omega⟩
        exact (all k' (d3 k' (by omega)) (e3 k' (by omega))).1 hop
    | x :: y :: z :: ks, hks, kid, h, hs =>
      have e5 : ∀ k, bound_ N (k + 1) (ctx c) (.st [f0, .sl nl (x :: y :: z :: ks), f2, f3, f4, f5]) = boundG (binds_ N) (bound_ N k) (edge_ N) (meetB_ N) N (ctx c) (.st [f0, .sl nl (x :: y :: z :: ks), f2, f3, f4, f5]) := fun _ => rfl
      have g : ∀ k, bound_ N (k + 1) (ctx c) (.st [f0, .sl nl (x :: y :: z :: ks), f2, f3, f4, f5]) = some (.sl true []) := fun k => by
        rw [e5]
        exact boundG_is _ _ (by show 3 ≤ (x :: y :: z :: ks).length; simp)
      refine ⟨_, g k, .inl rfl, fun k' hk' => ?_⟩
      obtain ⟨k', rfl⟩ : ∃ j, k' = j + 1 := ⟨k' - 1, by omega⟩
      exact g k'
end Go.Ev.S
