/- The plain laws: what a rule may ask of a plan, as the program tells it and as the document does; plans that are alike. The plain laws: each rule, by the program and by the document. The plain laws: the rules of Joins and Meets; any rule of any plan. -/
import Derived.Test.YtakjjijmcnhpoaaGreatPD
namespace Go.Ev.S
open Go Go.Ev
set_option linter.unusedVariables false
variable {N : Nat}

theorem Fits_pt (hN : 16777217 ≤ N) {c p : D} : Fits N c p ↔ Pat c ∧ (bd N c p).nl = false := by
  unfold Fits
  rw [pattern_val hN]
  constructor
  · rintro ⟨h1, h2⟩
    have h1 : D.bool (pt c) = .bool true := Option.some.inj h1
    rw [D.bool.injEq] at h1
    exact ⟨pt_t.1 h1, h2⟩
  · rintro ⟨h1, h2⟩
    exact ⟨by rw [pt_t.2 h1], h2⟩

theorem rBound_val (hN : 16777217 ≤ N) {c p : D} (hp : Pl p) (hs : sz p ≤ 16777215) : (Fits N c p ∧ ∃ r, rBound_ N p c = some (.st [.sl false r, .int 0]) ∧ trs r = trs (bd N c p).es) ∨ (¬ Fits N c p ∧ ∃ e, e ≠ 0 ∧ rBound_ N p c = some (.st [.sl true [], .int e])) := by
  unfold rBound_ rBound
  rw [Pattern_val hN, obind_s, b_bool]
  cases hq : pt c with
  | false =>
    refine .inr ⟨fun h => ?_, 1, by decide, rfl⟩
    have := pt_t.2 ((Fits_pt hN).1 h).1
    rw [hq] at this; cases this
  | true =>
    have P := pt_t.1 hq
    obtain ⟨r, h1, h2, h3⟩ := rbound_val hN P N p hp (by omega) hs
    rw [bno_t, cnd_f, h1, obind_s, h2]
    cases hn : (bd N c p).nl with
    | true => exact .inr ⟨fun h => (by have := h.2; rw [hn] at this; cases this), 131, by decide, rfl⟩
    | false => exact .inl ⟨(Fits_pt hN).2 ⟨P, hn⟩, _, rfl, h3⟩

/-- Does a plan bind these slots? -/
noncomputable def kn (N : Nat) (c p : D) (l : List D) : Bool := @decide (Fits N c p ∧ ∀ y ∈ l, okS (trs (bd N c p).es) y.n) (Classical.propDecidable _)
theorem kn_t {c p : D} {l : List D} : kn N c p l = true ↔ Fits N c p ∧ ∀ y ∈ l, okS (trs (bd N c p).es) y.n := by unfold kn; exact @decide_eq_true_iff _ (Classical.propDecidable _)
theorem kn_f {c p : D} {l : List D} (h : ¬ (Fits N c p ∧ ∀ y ∈ l, okS (trs (bd N c p).es) y.n)) : kn N c p l = false := by
  cases e : kn N c p l with
  | false => rfl
  | true => exact absurd (kn_t.1 e) h

theorem knows_val (hN : 16777217 ≤ N) {c p : D} (hp : Pl p) (hs : sz p ≤ 16777215) (s : D) (hl : s.es.length ≤ 16777215) : knows_ N (.st [c]) p s = some (.bool (kn N c p s.es)) := by
  unfold knows_ knows
  rw [show (D.st [c]).f 0 = c from rfl]
  rcases Bound_is hN (c := c) hp hs with ⟨hF, h⟩ | ⟨hF, e, he, h⟩
  · rw [h, obind_s, st_0, st_1, n_int, ieq_in rfl, cnd_t, nl_sl, es_sl]
    have hk : kn N c p s.es = true ↔ ∀ y ∈ s.es, okS (trs (bd N c p).es) y.n := kn_t.trans ⟨fun h => h.2, fun h => ⟨hF, h⟩⟩
    have hk' : ¬ (∀ y ∈ s.es, okS (trs (bd N c p).es) y.n) → kn N c p s.es = false := fun h => kn_f fun h' => h h'.2
    generalize (bd N c p).es = b at hk hk'
    rcases any_loop (fun n i => knows_l0 (Bound_ N) N n s.nl s.es (ilen (len s.es)) i (D.st [c]) p false b (fun (t4' : Int) => some (D.bool (bno (ile 0 t4')))) (some (D.bool true))) s.es.length
      (fun i => cnd (ilt (D.n (at_ s.es i)) 0) (some true) (cnd (ile (ilen (len b)) (D.n (at_ s.es i))) (some true) (cnd (inb (D.n (at_ s.es i)) (len b)) (some (bno (D.b (at_ b (tn (D.n (at_ s.es i))))))) none)))
      (fun (t4' : Int) => some (D.bool (bno (ile 0 t4')))) (some (D.bool true))
      (fun n i hi => by simp only [knows_l0, len_c, ilt_t hi, cnd_t, inb_t hi, tn_c, iadd_1 (show i < 2 ^ 62 by omega)])
      (fun n => by simp only [knows_l0, len_c, ilt_f, cnd_f])
      (fun i hi => by obtain ⟨v, h, _⟩ := gS_is b (at_ s.es i).n; exact ⟨v, h⟩) N 0 (Nat.zero_le _) (by omega) with ⟨g1, g⟩ | ⟨j, _, g1, g2, g⟩
    · refine g.trans ?_
      rw [hk.2 fun x hx => ?_]
      obtain ⟨i, hi⟩ := List.mem_iff_getElem?.1 hx
      have hlt := (List.getElem?_eq_some_iff.1 hi).1
      have := g1 i (Nat.zero_le _) hlt
      have hxa : at_ s.es i = x := by unfold at_; rw [List.getD_eq_getElem?_getD, hi]; rfl
      simp only [hxa] at this
      obtain ⟨v, h, hv⟩ := gS_is b x.n
      rw [h] at this
      exact hv.1 (Option.some.inj this)
    · refine g.trans ?_
      rw [ile_in (by omega), bno_t, hk' fun h => ?_]
      have hok := h _ (at_mem g1)
      obtain ⟨v, h, hv⟩ := gS_is b (at_ s.es j).n
      rw [h, hv.2 hok] at g2
      cases g2
  · rw [h, obind_s, st_1, n_int, ieq_no he, cnd_f, kn_f fun h => hF h.1]

theorem rknows_val (hN : 16777217 ≤ N) {c p : D} (hp : Pl p) (hs : sz p ≤ 16777215) (s : Int) : rknows_ N p c (.int s) = some (.bool (kn N c p [.int s])) := by
  unfold rknows_ rknows
  rcases rBound_val hN (c := c) hp hs with ⟨hF, r, h, hr⟩ | ⟨hF, e, he, h⟩
  · have hk : kn N c p [.int s] = true ↔ okS (trs r) s := kn_t.trans ⟨fun h => by rw [hr]; exact h.2 _ (List.mem_singleton.2 rfl), fun h => ⟨hF, fun y hy => by rw [List.mem_singleton.1 hy, ← hr]; exact h⟩⟩
    have hk' : ¬ okS (trs r) s → kn N c p [.int s] = false := fun h => kn_f fun h' => h (by rw [hr]; exact h'.2 _ (List.mem_singleton.2 rfl))
    rw [h, obind_s, st_0, st_1, n_int, n_int, ieq_in rfl, cnd_t, es_sl]
    unfold okS at hk hk'
    rw [trs_len, trs_at] at hk hk'
    cases h1 : ile 0 s with
    | false =>
      have := ile_not h1
      rw [cnd_f, obind_s, hk' (fun h => by omega)]
    | true =>
      have h1 := ile_is h1
      rw [cnd_t]
      cases h2 : ilt s (ilen (len r)) with
      | false =>
        have h2 := ilt_not h2
        unfold ilen len at h2
        rw [cnd_f, obind_s, hk' (fun h => by omega)]
      | true =>
        have h2 := ilt_is h2
        unfold ilen len at h2
        rw [cnd_t, inb_in (by unfold len; omega), cnd_t, obind_s]
        cases h3 : D.b (at_ r (tn s)) with
        | true => rw [hk.2 ⟨by omega, by omega, h3⟩]
        | false => rw [hk' (fun h => by rw [h3] at h; cases h.2.2)]
  · rw [h, obind_s, st_1, n_int, ieq_no he, cnd_f, obind_s, kn_f fun h => hF h.1]

/-! ### The slots of terms -/
theorem slots_l0_mem {z : Bool} {l : List D} {k : List D → Option D} (hll : l.length ≤ 16777216) {G : D → Option D} (hG : ∀ x ∈ l, ∃ d, G x = some d ∧ d.es.length ≤ sz x ∧ ∀ s, Has d.es s ↔ Sl x s) : ∀ (n i : Nat) (o : List D), i ≤ l.length → l.length - i < n → o.length + szL (l.drop i) ≤ 16777216 →
    ∃ o' : List D, o'.length ≤ o.length + szL (l.drop i) ∧ (∀ s, Has o' s ↔ Has o s ∨ ∃ x ∈ l.drop i, Sl x s) ∧ slots_l0 G N n z l (ilen (len l)) (i : Int) o k = k o'
  | 0, i, o, _, h, _ => by omega
  | n + 1, i, o, hi, h, hs => by
    by_cases e : i = l.length
    · subst e
      exact ⟨o, by omega, fun s => by simp, by simp only [slots_l0, len_c, ilt_f, cnd_f]⟩
    · have hlt : i < l.length := by omega
      obtain ⟨d, h1, h2, h3⟩ := hG _ (at_mem hlt)
      have e1 := szL_drop hlt
      have hl := szL_len (l.drop i)
      rw [List.length_drop] at hl
      obtain ⟨o', g1, g3, g2⟩ := slots_l0_mem hll hG n (i + 1) (o ++ d.es) (by omega) (by omega) (by rw [List.length_append]; omega)
      rw [List.length_append] at g1
      refine ⟨o', by omega, fun s => ?_, ?_⟩
      · rw [g3 s, Has.app, h3 s, drop_at hlt, or_assoc]
        simp only [List.mem_cons, exists_eq_or_imp]
      · simp only [slots_l0, len_c, ilt_t hlt, cnd_t, inb_t hlt, tn_c, h1, obind_s, nadd_c]
        rw [room_in (by omega) (by omega), cnd_t, iadd_1 (by omega), app_c]
        exact g2
theorem slots_mem (hN : 16777217 ≤ N) (a : D) (h : szL a.es ≤ 16777215) : ∃ d, slots_ N a = some d ∧ d.es.length ≤ 16777215 ∧ ∀ s, Has d.es s ↔ ∃ x ∈ a.es, Sl x s := by
  have hl := szL_len a.es
  obtain ⟨o, h1, h3, h2⟩ := slots_l0_mem (N := N) (z := a.nl) (l := a.es) (k := fun (o1' : List D) => some (D.sl (empty o1') o1')) (by omega) (G := Slots_ N N) (fun x hx => Slots_mem hN N x (by have := szL_mem hx; omega) (by have := szL_mem hx; omega)) N 0 [] (Nat.zero_le _) (by omega) (by simp only [List.length_nil, List.drop_zero]; omega)
  simp only [List.length_nil, List.drop_zero] at h1 h3
  exact ⟨_, h2, by rw [es_sl]; omega, fun s => by rw [es_sl, h3 s, Has.nil]; simp⟩

/-- Does a plan bind all slots of terms? -/
noncomputable def kb (N : Nat) (c p : D) (l : List D) : Bool := @decide (Fits N c p ∧ ∀ t ∈ l, bt (trs (bd N c p).es) t = true) (Classical.propDecidable _)
theorem kb_t {c p : D} {l : List D} : kb N c p l = true ↔ Fits N c p ∧ ∀ t ∈ l, bt (trs (bd N c p).es) t = true := by unfold kb; exact @decide_eq_true_iff _ (Classical.propDecidable _)
theorem kb_f {c p : D} {l : List D} (h : ¬ (Fits N c p ∧ ∀ t ∈ l, bt (trs (bd N c p).es) t = true)) : kb N c p l = false := by
  cases e : kb N c p l with
  | false => rfl
  | true => exact absurd (kb_t.1 e) h
theorem kn_kb {c p : D} {l a : List D} (h : ∀ s, Has l s ↔ ∃ x ∈ a, Sl x s) : kn N c p l = kb N c p a := by
  rw [Bool.eq_iff_iff, kn_t, kb_t]
  refine and_congr_right fun _ => ?_
  simp only [bt_t]
  constructor
  · intro h1 t ht s hs
    obtain ⟨x, hx, rfl⟩ := (h s).2 ⟨t, ht, hs⟩
    exact h1 x hx
  · intro h1 y hy
    obtain ⟨t, ht, hs⟩ := (h y.n).1 ⟨y, hy, rfl⟩
    exact h1 t ht _ hs
theorem Binds14_val (hN : 16777217 ≤ N) {c p : D} (hp : Pl p) (hs : sz p ≤ 16777215) (a : D) (ha : szL a.es ≤ 16777215) : Binds14_ N p c a = some (.bool (kb N c p a.es)) := by
  have hl := szL_len a.es
  unfold Binds14_ Binds14
  rcases rBound_val hN (c := c) hp hs with ⟨hF, r, h, hr⟩ | ⟨hF, e, he, h⟩
  · rw [h, obind_s, st_0, st_1, n_int, ieq_in rfl, bno_t, cnd_f, nl_sl, es_sl]
    rcases any_loop (fun n i => Binds14_l0 (rBinds_ N) (rBound_ N) N n a.nl a.es false r i (fun (t6' : Bool) => some (D.bool t6')) (some (D.bool true))) a.es.length
      (fun i => some (bno (bt (trs (bd N c p).es) (at_ a.es i)))) (fun _ => some (D.bool false)) (some (D.bool true))
      (fun n i hi => by
        have := szL_mem (at_mem hi)
        rw [← hr]
        simp only [Binds14_l0, len_c, ilt_t hi, cnd_t, inb_t hi, tn_c, iadd_1 (show i < 2 ^ 62 by omega), rBinds_val hN false r (at_ a.es i) (by omega), obind_s, b_bool])
      (fun n => by simp only [Binds14_l0, len_c, ilt_f, cnd_f])
      (fun i hi => ⟨_, rfl⟩) N 0 (Nat.zero_le _) (by omega) with ⟨g1, g⟩ | ⟨j, _, g1, g2, g⟩
    · refine g.trans ?_
      rw [kb_t.2 ⟨hF, fun x hx => ?_⟩]
      obtain ⟨i, hi⟩ := List.mem_iff_getElem?.1 hx
      have hlt := (List.getElem?_eq_some_iff.1 hi).1
      have := g1 i (Nat.zero_le _) hlt
      have hxa : at_ a.es i = x := by unfold at_; rw [List.getD_eq_getElem?_getD, hi]; rfl
      rw [hxa] at this
      exact bno_not (Option.some.inj this)
    · refine g.trans ?_
      rw [kb_f fun h => ?_]
      have := h.2 _ (at_mem g1)
      rw [bno_is (Option.some.inj g2)] at this
      cases this
  · rw [h, obind_s, st_1, n_int, ieq_no he, bno_f, cnd_t, kb_f fun h => hF h.1]

/-! ### Edges that touch -/
noncomputable def tc (N : Nat) (c p : D) (k s : Int) : Bool :=
  if ((mE c k).f 3).n = s then (if ((mE c k).f 2).n = s then false else kn N c p [.int ((mE c k).f 2).n])
  else if ((mE c k).f 2).n = s then kn N c p [.int ((mE c k).f 3).n] else false
theorem touches_val (hN : 16777217 ≤ N) {c p : D} (hp : Pl p) (hs : sz p ≤ 16777215) {k : Int} (hk : 0 ≤ k ∧ k < (c.f 1).es.length) (s : Int) : touches_ N (.st [c]) p (.int k) (.int s) = some (.bool (tc N c p k s)) := by
  unfold touches_ touches
  rw [show (D.st [c]).f 0 = c from rfl]
  simp only [n_int]
  rw [inb_in (by unfold len; omega), cnd_t, show at_ (c.f 1).es (tn k) = mE c k from rfl, knows_val hN hp hs _ (by rw [es_sl]; exact (by decide : 1 ≤ 16777215)), knows_val hN hp hs _ (by rw [es_sl]; exact (by decide : 1 ≤ 16777215)), es_sl, es_sl]
  unfold tc
  by_cases h1 : ((mE c k).f 3).n = s
  · rw [ieq_in h1.symm, cnd_t, if_pos h1]
    by_cases h2 : ((mE c k).f 2).n = s
    · rw [ieq_in h2, if_pos h2]; rfl
    · rw [ieq_no h2, if_neg h2]; rfl
  · rw [ieq_no (fun h => h1 h.symm), cnd_f, if_neg h1]
    by_cases h2 : ((mE c k).f 2).n = s
    · rw [ieq_in h2.symm, if_pos h2]; rfl
    · rw [ieq_no (fun h => h2 h.symm), if_neg h2]; rfl
theorem rtouches_val (hN : 16777217 ≤ N) {c p : D} (hp : Pl p) (hs : sz p ≤ 16777215) {k : Int} (hk : 0 ≤ k ∧ k < (c.f 1).es.length) (s : Int) : rtouches_ N p c (.int k) (.int s) = some (.bool (tc N c p k s)) := by
  unfold rtouches_ rtouches
  simp only [n_int]
  rw [inb_in (by unfold len; omega), cnd_t, show at_ (c.f 1).es (tn k) = mE c k from rfl, rknows_val hN hp hs, rknows_val hN hp hs]
  unfold tc
  by_cases h2 : ((mE c k).f 2).n = s
  · rw [ieq_in h2, if_pos h2, if_pos h2]
    by_cases h1 : ((mE c k).f 3).n = s
    · rw [ieq_in h1, if_pos h1]; rfl
    · rw [ieq_no h1, if_neg h1]; rfl
  · rw [ieq_no h2, if_neg h2, if_neg h2]
    by_cases h1 : ((mE c k).f 3).n = s
    · rw [ieq_in h1, if_pos h1]; rfl
    · rw [ieq_no h1, if_neg h1]; rfl

/-! ### Plans that are alike -/
/-- Plans that tell the same, but for the words of their lists; their kids are alike. -/
structure Eqw (N m : Nat) (a b : D) : Prop where
  op : (a.f 0).n = (b.f 0).n
  slot : (a.f 2).n = (b.f 2).n
  back : (a.f 4).b = (b.f 4).b
  terms : (a.f 5).es = (b.f 5).es
  edgeL : (a.f 3).es.length = (b.f 3).es.length
  edges : ∀ i, i < (a.f 3).es.length → (at_ (a.f 3).es i).n = (at_ (b.f 3).es i).n
  kidL : (a.f 1).es.length = (b.f 1).es.length
  kids : ∀ i, i < (a.f 1).es.length → SamePlan_ N m (at_ (a.f 1).es i) (at_ (b.f 1).es i) = some (.bool true)
theorem SamePlan_sim (hN : 16777217 ≤ N) (k : Nat) (a b : D) (E : Eqw N k a b) (hs : sz a ≤ 4194304) : SamePlan_ N (k + 1) a b = some (.bool true) := by
  have e : SamePlan_ N (k + 1) = SamePlan (SamePlan_ N k) (SameTerms_ N N) N := rfl
  have h5 := sz_kids a 5
  have h3 := len_kids a 3
  have h1 := len_kids a 1
  have e3 := E.edgeL
  have e1 := E.kidL
  rw [e]
  unfold SamePlan
  rw [(both_is hN N).2 (.sl (a.f 5).nl (a.f 5).es) (.sl (b.f 5).nl (b.f 5).es) E.terms (by rw [es_sl]; omega) (by rw [es_sl]; omega), obind_s, E.op, ieq_in rfl, ieq_in (show ilen (len (a.f 1).es) = ilen (len (b.f 1).es) by unfold ilen len; rw [E.kidL]), ieq_in E.slot, ieq_in (show ilen (len (a.f 3).es) = ilen (len (b.f 3).es) by unfold ilen len; rw [E.edgeL]), E.back, show beqb (b.f 4).b (b.f 4).b = true from by cases (b.f 4).b <;> rfl]
  refine (obind_s _ _).trans ?_
  refine (cnd_f _ _).trans ?_
  rcases any_loop (fun n i => SamePlan_l0 (SamePlan_ N k) (SameTerms_ N N) N n i a b (fun (t4' : Bool) => some (D.bool t4')) (SamePlan_l1 (SamePlan_ N k) (SameTerms_ N N) N N 0 a b (fun (t4' : Bool) => some (D.bool t4')) (some (D.bool true)))) (a.f 3).es.length
    (fun i => some false) (fun _ => some (D.bool false)) (SamePlan_l1 (SamePlan_ N k) (SameTerms_ N N) N N 0 a b (fun (t4' : Bool) => some (D.bool t4')) (some (D.bool true)))
    (fun n i hi => by
      have hi' : i < (b.f 3).es.length := by omega
      simp only [SamePlan_l0, len_c, ilt_t hi, cnd_t, inb_t hi, inb_t hi', tn_c, iadd_1 (show i < 2 ^ 62 by omega), obind_s, ieq_in (E.edges i hi), bno_t])
    (fun n => by simp only [SamePlan_l0, len_c, ilt_f, cnd_f])
    (fun i hi => ⟨_, rfl⟩) N 0 (Nat.zero_le _) (by omega) with ⟨_, g⟩ | ⟨j, _, _, h3, g⟩
  · refine g.trans ?_
    rcases any_loop (fun n i => SamePlan_l1 (SamePlan_ N k) (SameTerms_ N N) N n i a b (fun (t4' : Bool) => some (D.bool t4')) (some (D.bool true))) (a.f 1).es.length
      (fun i => some false) (fun _ => some (D.bool false)) (some (D.bool true))
      (fun n i hi => by
        have hi' : i < (b.f 1).es.length := by omega
        simp only [SamePlan_l1, len_c, ilt_t hi, cnd_t, inb_t hi, inb_t hi', tn_c, iadd_1 (show i < 2 ^ 62 by omega), obind_s, E.kids i hi, b_bool, bno_t])
      (fun n => by simp only [SamePlan_l1, len_c, ilt_f, cnd_f])
      (fun i hi => ⟨_, rfl⟩) N 0 (Nat.zero_le _) (by omega) with ⟨_, g⟩ | ⟨j, _, _, h3, g⟩
    · exact g
    · cases h3
  · cases h3
end Go.Ev.S

namespace Go.Ev.S
open Go Go.Ev
set_option linter.unusedVariables false
variable {N : Nat}

/-- Two answers that agree. -/
def Ag (N : Nat) (a b : Option D) : Prop := ∃ x y f, a = some (.st [x, .bool f]) ∧ b = some (.st [y, .bool f]) ∧ SamePlan_ N N x y = some (.bool true)
theorem Ag.eqv (hN : 16777217 ≤ N) {x y : D} {f : Bool} (E : Eqv x y) (hs : sz x ≤ 4194304) : Ag N (some (.st [x, .bool f])) (some (.st [y, .bool f])) :=
  ⟨x, y, f, rfl, rfl, SamePlan_is hN N x y E (by omega) hs⟩
theorem Ag.refl (hN : 16777217 ≤ N) {x : D} {f : Bool} (hs : sz x ≤ 4194304) : Ag N (some (.st [x, .bool f])) (some (.st [x, .bool f])) := Ag.eqv hN (Eqv.refl x) hs
theorem Ag.sim (hN : 16777217 ≤ N) {x y : D} {f : Bool} (E : ∀ m, N = m + 1 → Eqw N m x y) (hs : sz x ≤ 4194304) : Ag N (some (.st [x, .bool f])) (some (.st [y, .bool f])) := by
  obtain ⟨m, hm⟩ : ∃ m, N = m + 1 := ⟨N - 1, by omega⟩
  have := SamePlan_sim hN m x y (E m hm) hs
  rw [← hm] at this
  exact ⟨x, y, f, rfl, rfl, this⟩
theorem Ag.lift {a b : Option D} (h : Ag N a b) : Ag N (obind a fun d => some (.st [d.f 0, .bool (d.f 1).b])) (obind b fun d => some (.st [d.f 0, .bool (d.f 1).b])) := by
  obtain ⟨x, y, f, rfl, rfl, h⟩ := h
  exact ⟨x, y, f, rfl, rfl, h⟩
/-- The same elements: the same plans. -/
theorem same_kids (hN : 16777217 ≤ N) {m : Nat} (hm : N = m + 1) {l : List D} (hl : szL l ≤ 4194304) : ∀ i, i < l.length → SamePlan_ N m (at_ l i) (at_ l i) = some (.bool true) := fun i hi => by
  have := szL_mem (at_mem hi)
  exact SamePlan_is hN m _ _ (Eqv.refl _) (by omega) (by omega)

theorem rfilter_is (x t : D) : rfilter_ N x t = some (.st [.int 6, .sl false [x], .int 0, .sl true [], .bool false, .sl t.nl t.es]) := rfl
theorem over_is (x t : D) : over_ N x t = some (.st [.int (x.f 0).n, .sl false [t], .int (x.f 2).n, .sl (x.f 3).nl (x.f 3).es, .bool (x.f 4).b, .sl (x.f 5).nl (x.f 5).es]) := rfl

theorem split_ag (hN : 16777217 ≤ N) {c p : D} (hp : Pl p) (hs : sz p ≤ 1048576) (hF : Fits N c p) : Ag N (split_ N (.st [c]) p) (filters_ N (.int 1) p c) := by
  have P := hF.pat hN
  have h5 := sz_kids p 5
  unfold filters_ filters
  rw [AllSafe_val hN _ (by rw [es_sl]; omega), obind_s, b_bool, es_sl, n_int]
  cases hsafe : (ieq (p.f 0).n 6 && (p.f 5).es.all (sure N)) with
  | false =>
    have hr : (cnd (bno (ieq (p.f 0).n 6)) (some true) (some (bno ((p.f 5).es.all (sure N))))) = some true := by
      cases h1 : ieq (p.f 0).n 6 with
      | false => rfl
      | true => rw [h1, Bool.true_and] at hsafe; rw [hsafe]; rfl
    rw [hr, obind_s, cnd_t]
    unfold split_ split
    rw [safe_is hN p (by omega), obind_s, b_bool, hsafe]
    exact Ag.refl hN (by omega)
  | true =>
    rw [Bool.and_eq_true] at hsafe
    have h6 := ieq_is hsafe.1
    obtain ⟨x, hx, px, sx, bx, nlx⟩ := bd_one hN P hp (by omega) hF.2 (by omega)
    have hr : (cnd (bno (ieq (p.f 0).n 6)) (some true) (some (bno ((p.f 5).es.all (sure N))))) = some false := by
      rw [hsafe.1, hsafe.2]; rfl
    rw [hr, obind_s, cnd_f, hx, inb_1, cnd_t, at_1, show ieq 1 1 = true from rfl, cnd_t, obind_s]
    rcases split_is hN (a := .st [c]) (p := p) (by omega) hx with ⟨hno, g⟩ | ⟨_, t, r, htr, g⟩
    · rw [g]
      have : ¬ 2 ≤ (p.f 5).es.length := fun h => hno ⟨h6, hsafe.2, h⟩
      rw [ilt_no (by unfold ilen len; omega), cnd_f]
      exact Ag.refl hN (by omega)
    · have hyes : split_ N (.st [c]) p = some (.st [.st [.int 6, .sl false [.st [.int 6, .sl false [x], .int 0, .sl true [], .bool false, .sl (p.f 5).nl r]], .int 0, .sl true [], .bool false, .sl false [t]], .bool true]) := g
      have hlen : 2 ≤ (p.f 5).es.length := by
        by_cases h : 2 ≤ (p.f 5).es.length
        · exact h
        · exfalso
          unfold split_ split at hyes
          rw [safe_is hN p (by omega), obind_s, b_bool, hsafe.1, hsafe.2, show ilt (ilen (len (p.f 5).es)) 2 = true from ilt_in (by unfold ilen len; omega)] at hyes
          have hyes : some (D.st [p, .bool false]) = some (.st [.st [.int 6, .sl false [.st [.int 6, .sl false [x], .int 0, .sl true [], .bool false, .sl (p.f 5).nl r]], .int 0, .sl true [], .bool false, .sl false [t]], .bool true]) := hyes
          have := Option.some.inj hyes
          simp at this
      rw [g, ilt_in (by unfold ilen len; omega), cnd_t, inc_in (by unfold ilen len; omega), cnd_t]
      rw [htr] at hlen ⊢
      have e1 : cut (t :: r) 1 (nsub (len (t :: r)) 1) = r := cut_1 t r
      have e2 : cut (t :: r) 0 1 = [t] := rfl
      rw [e1, e2, rfilter_is, obind_s, inc_in (by unfold len; omega), cnd_t, rfilter_is, obind_s, nl_sl, es_sl, nl_sl, es_sl]
      refine Ag.eqv hN ⟨rfl, rfl, rfl, rfl, rfl, rfl⟩ ?_
      have s1 := hp.size
      rw [hx, htr] at s1
      simp only [szL] at s1
      simp only [sz, szL]
      omega

theorem merge_ag (hN : 16777217 ≤ N) {c p : D} (hp : Pl p) (hs : sz p ≤ 1048576) (hF : Fits N c p) : Ag N (merge_ N (.st [c]) p) (filters_ N (.int 2) p c) := by
  have P := hF.pat hN
  have h5 := sz_kids p 5
  unfold filters_ filters
  rw [AllSafe_val hN _ (by rw [es_sl]; omega), obind_s, b_bool, es_sl, n_int]
  cases hsafe : (ieq (p.f 0).n 6 && (p.f 5).es.all (sure N)) with
  | false =>
    have hr : (cnd (bno (ieq (p.f 0).n 6)) (some true) (some (bno ((p.f 5).es.all (sure N))))) = some true := by
      cases h1 : ieq (p.f 0).n 6 with
      | false => rfl
      | true => rw [h1, Bool.true_and] at hsafe; rw [hsafe]; rfl
    rw [hr, obind_s, cnd_t]
    unfold merge_ merge
    rw [safe_is hN p (by omega), obind_s, b_bool, hsafe]
    exact Ag.refl hN (by omega)
  | true =>
    rw [Bool.and_eq_true] at hsafe
    have h6 := ieq_is hsafe.1
    obtain ⟨x, hx, px, sx, bx, nlx⟩ := bd_one hN P hp (by omega) hF.2 (by omega)
    have hr : (cnd (bno (ieq (p.f 0).n 6)) (some true) (some (bno ((p.f 5).es.all (sure N))))) = some false := by
      rw [hsafe.1, hsafe.2]; rfl
    have hx5 := sz_kids x 5
    rw [hr, obind_s, cnd_f, hx, inb_1, cnd_t, at_1, show ieq 2 1 = false from rfl, cnd_f, obind_s, cnd_f, show ieq 2 2 = true from rfl, cnd_t, obind_s, AllSafe_val hN _ (by rw [es_sl]; omega), es_sl, obind_s, b_bool]
    rcases merge_is hN (a := .st [c]) P hp (by omega) hF.2 with ⟨hno, g⟩ | ⟨x', y, z, hx', hy, _, h6x, g⟩
    · rw [g]
      cases h1 : ieq (x.f 0).n 6 with
      | false => rw [cnd_f]; exact Ag.refl hN (by omega)
      | true =>
        rw [cnd_t]
        cases h2 : (x.f 5).es.all (sure N) with
        | false => rw [cnd_f]; exact Ag.refl hN (by omega)
        | true => exact absurd ⟨⟨h6, hsafe.2⟩, x, hx, ieq_is h1, h2⟩ hno
    · rw [hx] at hx'
      obtain rfl : x = x' := by simpa using hx'
      have s1 := hp.size
      have s2 := px.size
      rw [hx] at s1
      rw [hy] at s2
      simp only [szL] at s1 s2
      have l1 := szL_len (p.f 5).es
      have l2 := szL_len (x.f 5).es
      have hall : (x.f 5).es.all (sure N) = true := by
        cases h2 : (x.f 5).es.all (sure N) with
        | true => rfl
        | false =>
          exfalso
          unfold merge_ merge at g
          rw [safe_is hN p (by omega), obind_s, b_bool, hsafe.1, hsafe.2, hx] at g
          simp only [Bool.and_true, bno_t, cnd_f, inb_1, cnd_t, at_1] at g
          rw [safe_is hN x (by omega), obind_s, b_bool, h2, Bool.and_false] at g
          have g : some (D.st [p, .bool false]) = _ := g
          have := Option.some.inj g
          simp at this
      rw [g, ieq_in h6x, cnd_t, hall, cnd_t, hy, inb_1, cnd_t, at_1, len_c, len_c, room_in (by omega) (by omega), cnd_t, nadd_c, room_in (by omega) (by omega), cnd_t, rfilter_is, obind_s, nl_sl, es_sl, app_c]
      refine Ag.eqv hN ⟨rfl, rfl, rfl, rfl, rfl, rfl⟩ ?_
      simp only [sz, szL, szL_app]
      omega

theorem down_ag (hN : 16777217 ≤ N) {c p : D} (hp : Pl p) (hs : sz p ≤ 1048576) (hF : Fits N c p) : Ag N (down_ N (.st [c]) p) (filters_ N (.int 3) p c) := by
  have P := hF.pat hN
  have h5 := sz_kids p 5
  unfold filters_ filters
  rw [AllSafe_val hN _ (by rw [es_sl]; omega), obind_s, b_bool, es_sl, n_int]
  unfold down_ down
  rw [safe_is hN p (by omega), obind_s, b_bool]
  cases hsafe : (ieq (p.f 0).n 6 && (p.f 5).es.all (sure N)) with
  | false =>
    have hr : (cnd (bno (ieq (p.f 0).n 6)) (some true) (some (bno ((p.f 5).es.all (sure N))))) = some true := by
      cases h1 : ieq (p.f 0).n 6 with
      | false => rfl
      | true => rw [h1, Bool.true_and] at hsafe; rw [hsafe]; rfl
    rw [hr, obind_s, cnd_t]
    exact Ag.refl hN (by omega)
  | true =>
    rw [Bool.and_eq_true] at hsafe
    have h6 := ieq_is hsafe.1
    obtain ⟨x, hx, px, sx, bx, nlx⟩ := bd_one hN P hp (by omega) hF.2 (by omega)
    have hr : (cnd (bno (ieq (p.f 0).n 6)) (some true) (some (bno ((p.f 5).es.all (sure N))))) = some false := by
      rw [hsafe.1, hsafe.2]; rfl
    have s1 := hp.size
    rw [hx] at s1
    simp only [szL] at s1
    rw [hr, obind_s, cnd_f, hx]
    simp only [bno_t, cnd_f, inb_1, cnd_t, at_1]
    rw [show ieq 3 1 = false from rfl, cnd_f, obind_s, cnd_f, show ieq 3 2 = false from rfl, cnd_f, obind_s, cnd_f, show ieq 3 3 = true from rfl, cnd_t]
    rw [step_is (by omega) x false [.int 2, .int 3, .int 5] (by decide), obind_s, b_bool]
    have hops : (cnd (ieq (x.f 0).n 2) (some true) (cnd (ieq (x.f 0).n 3) (some true) (some (ieq (x.f 0).n 5)))) = some ([D.int 2, D.int 3, D.int 5].any fun d => decide ((x.f 0).n = d.n)) := by
      have h3 : ∀ b1 b2 b3 : Bool, cnd b1 (some true) (cnd b2 (some true) (some b3)) = some (b1 || (b2 || b3)) := fun b1 b2 b3 => by cases b1 <;> cases b2 <;> rfl
      rw [h3]
      simp only [List.any_cons, List.any_nil, n_int, Bool.or_false, ieq]
      rfl
    rw [hops, obind_s]
    cases hst : ([D.int 2, D.int 3, D.int 5].any fun d => decide ((x.f 0).n = d.n)) with
    | false => exact Ag.refl hN (by omega)
    | true =>
      have hop : (x.f 0).n = 2 ∨ (x.f 0).n = 3 ∨ (x.f 0).n = 5 := any_3 hst
      obtain ⟨y, hy, py, sy, by_, nly⟩ := bd_one hN P px (by omega) bx (by omega)
      obtain ⟨d, hd1, hd2, hd3⟩ := slots_mem hN (.sl (p.f 5).nl (p.f 5).es) (by rw [es_sl]; omega)
      rw [es_sl] at hd3
      rw [hy]
      simp only [bno_t, cnd_f, inb_1, cnd_t, at_1]
      rw [hd1, obind_s, knows_val hN py (by omega) _ (by rw [es_sl]; exact hd2), obind_s, b_bool, es_sl, kn_kb hd3, obind_s, Binds14_val hN py (by omega) _ (by rw [es_sl]; omega), obind_s, b_bool, es_sl]
      cases kb N c y (p.f 5).es with
      | false => exact Ag.refl hN (by omega)
      | true =>
        have hrep : ∀ q, replaced_ N x (.int 0) q = some (.st [.int (x.f 0).n, .sl false (put (x.f 1).es 0 q), .int (x.f 2).n, .sl (x.f 3).nl (x.f 3).es, .bool (x.f 4).b, .sl (x.f 5).nl (x.f 5).es]) := fun q =>
          replaced_is (N := N) (p := x) (c := q) (i := 0) nly (by rw [hy]; exact Nat.succ_pos _) (by rw [hy]; exact (by decide : 1 ≤ 16777215))
        rw [bno_t, cnd_f, filter_is, obind_s, nl_sl, es_sl, hrep, obind_s, cnd_t, rfilter_is, obind_s, over_is, obind_s, nl_sl, es_sl, hy]
        refine Ag.eqv hN ⟨rfl, rfl, rfl, rfl, rfl, rfl⟩ ?_
        have s2 := px.size
        rw [hy] at s2
        have e : put [y] 0 (D.st [.int 6, .sl false [y], .int 0, .sl true [], .bool false, .sl (p.f 5).nl (p.f 5).es]) = [D.st [.int 6, .sl false [y], .int 0, .sl true [], .bool false, .sl (p.f 5).nl (p.f 5).es]] := rfl
        rw [e]
        simp only [sz, szL] at *
        omega

theorem sides_ag (hN : 16777217 ≤ N) {c p : D} (hp : Pl p) (hs : sz p ≤ 1048576) (hF : Fits N c p) : Ag N (sides_ N (.st [c]) p) (filters_ N (.int 4) p c) := by
  have P := hF.pat hN
  have h5 := sz_kids p 5
  unfold filters_ filters
  rw [AllSafe_val hN _ (by rw [es_sl]; omega), obind_s, b_bool, es_sl, n_int]
  unfold sides_ sides
  rw [safe_is hN p (by omega), obind_s, b_bool]
  cases hsafe : (ieq (p.f 0).n 6 && (p.f 5).es.all (sure N)) with
  | false =>
    have hr : (cnd (bno (ieq (p.f 0).n 6)) (some true) (some (bno ((p.f 5).es.all (sure N))))) = some true := by
      cases h1 : ieq (p.f 0).n 6 with
      | false => rfl
      | true => rw [h1, Bool.true_and] at hsafe; rw [hsafe]; rfl
    rw [hr, obind_s, cnd_t]
    exact Ag.refl hN (by omega)
  | true =>
    rw [Bool.and_eq_true] at hsafe
    have h6 := ieq_is hsafe.1
    obtain ⟨x, hx, px, sx, bx, nlx⟩ := bd_one hN P hp (by omega) hF.2 (by omega)
    have hr : (cnd (bno (ieq (p.f 0).n 6)) (some true) (some (bno ((p.f 5).es.all (sure N))))) = some false := by
      rw [hsafe.1, hsafe.2]; rfl
    have s1 := hp.size
    rw [hx] at s1
    simp only [szL] at s1
    rw [hr, obind_s, cnd_f, hx]
    simp only [inb_1, cnd_t, at_1]
    rw [show ieq 4 1 = false from rfl, cnd_f, obind_s, cnd_f, show ieq 4 2 = false from rfl, cnd_f, obind_s, cnd_f, show ieq 4 3 = false from rfl, cnd_f, obind_s, cnd_f, show ieq 4 4 = true from rfl, cnd_t, obind_s]
    rw [step_is (by omega) x false [.int 4] (by decide), obind_s, b_bool, obind_s]
    have hops : ([D.int 4].any fun d => decide ((x.f 0).n = d.n)) = ieq (x.f 0).n 4 := by simp [n_int, ieq]; rfl
    rw [hops]
    cases h4 : ieq (x.f 0).n 4 with
    | false => exact Ag.refl hN (by omega)
    | true =>
      have h4 := ieq_is h4
      rw [cnd_t, cnd_t]
      obtain ⟨y, w, hk, py, pw, sy, sw, by_, bw⟩ := bd_two hN P px (by omega) bx h4
      obtain ⟨d, hd1, hd2, hd3⟩ := slots_mem hN (.sl (p.f 5).nl (p.f 5).es) (by rw [es_sl]; omega)
      rw [es_sl] at hd3
      have nl2 : (x.f 1).nl = false := nl_of_cons px hk
      have s2 := px.size
      rw [hk] at s2
      simp only [szL] at s2
      have ky := knows_val hN (c := c) py (by omega) (.sl d.nl d.es) (by rw [es_sl]; exact hd2)
      have kw := knows_val hN (c := c) pw (by omega) (.sl d.nl d.es) (by rw [es_sl]; exact hd2)
      rw [es_sl, kn_kb hd3] at ky kw
      have by2 := Binds14_val hN (c := c) py (by omega) (.sl (p.f 5).nl (p.f 5).es) (by rw [es_sl]; omega)
      have bw2 := Binds14_val hN (c := c) pw (by omega) (.sl (p.f 5).nl (p.f 5).es) (by rw [es_sl]; omega)
      rw [es_sl] at by2 bw2
      have rep : ∀ (i : Nat) (q : D), i < 2 → replaced_ N x (.int (i : Int)) q = some (.st [.int (x.f 0).n, .sl false (put [y, w] i q), .int (x.f 2).n, .sl (x.f 3).nl (x.f 3).es, .bool (x.f 4).b, .sl (x.f 5).nl (x.f 5).es]) := fun i q hi => by
        have := replaced_is (N := N) (p := x) (c := q) (i := i) nl2 (by rw [hk]; exact hi) (by rw [hk]; exact (by decide : 2 ≤ 16777215))
        rw [hk] at this
        exact this
      have rep0 : ∀ q, replaced_ N x (.int 0) q = some (.st [.int (x.f 0).n, .sl false (put [y, w] 0 q), .int (x.f 2).n, .sl (x.f 3).nl (x.f 3).es, .bool (x.f 4).b, .sl (x.f 5).nl (x.f 5).es]) := fun q => rep 0 q (by decide)
      have rep1 : ∀ q, replaced_ N x (.int 1) q = some (.st [.int (x.f 0).n, .sl false (put [y, w] 1 q), .int (x.f 2).n, .sl (x.f 3).nl (x.f 3).es, .bool (x.f 4).b, .sl (x.f 5).nl (x.f 5).es]) := fun q => rep 1 q (by decide)
      -- the loops, round by round
      have prog : ∀ (m : Nat) (z : Bool) (o2 : D), sides_l0 (filter_ N) (knows_ N) (replaced_ N) (safe_ N) (slots_ N) (step_ N) N (m + 3) z [y, w] (ilen (len [y, w])) 0 (.st [c]) p o2 (fun (t5' : Bool) (o2' : D) => some (D.st [o2', D.bool t5'])) (some (D.st [p, D.bool false])) =
          some (if kb N c y (p.f 5).es then .st [.st [.int (x.f 0).n, .sl false (put [y, w] 0 (.st [.int 6, .sl false [y], .int 0, .sl true [], .bool false, .sl (p.f 5).nl (p.f 5).es])), .int (x.f 2).n, .sl (x.f 3).nl (x.f 3).es, .bool (x.f 4).b, .sl (x.f 5).nl (x.f 5).es], .bool true]
            else if kb N c w (p.f 5).es then .st [.st [.int (x.f 0).n, .sl false (put [y, w] 1 (.st [.int 6, .sl false [w], .int 0, .sl true [], .bool false, .sl (p.f 5).nl (p.f 5).es])), .int (x.f 2).n, .sl (x.f 3).nl (x.f 3).es, .bool (x.f 4).b, .sl (x.f 5).nl (x.f 5).es], .bool true]
            else .st [p, .bool false]) := fun m z o2 => by
        rw [sides_l0, show ilt 0 (ilen (len [y, w])) = true from rfl, cnd_t, show inb 0 (len [y, w]) = true from rfl, cnd_t, hd1, obind_s, show at_ [y, w] (tn 0) = y from rfl, ky, obind_s, b_bool]
        cases kb N c y (p.f 5).es with
        | true =>
          rw [cnd_t, hx, inb_1, cnd_t, at_1, filter_is, obind_s, nl_sl, es_sl, rep0, obind_s]
          rfl
        | false =>
          rw [cnd_f, sides_l0, show iadd IntKind.i64 0 1 = 1 from by decide, show ilt 1 (ilen (len [y, w])) = true from rfl, cnd_t, show inb 1 (len [y, w]) = true from rfl, cnd_t, hd1, obind_s, show at_ [y, w] (tn 1) = w from rfl, kw, obind_s, b_bool]
          cases kb N c w (p.f 5).es with
          | true =>
            rw [cnd_t, hx, inb_1, cnd_t, at_1, filter_is, obind_s, nl_sl, es_sl, rep1, obind_s]
            rfl
          | false =>
            rw [cnd_f, sides_l0, show iadd IntKind.i64 1 1 = 2 from by decide, show ilt 2 (ilen (len [y, w])) = false from rfl, cnd_f]
            rfl
      have ref : ∀ (m : Nat) (o2 : D), filters_l0 (AllSafe_ N) (Binds14_ N) (over_ N) (rfilter_ N) N (m + 3) 0 p c o2 x (fun (t7' : Bool) (o2_0' o2_2' : Int) (o2_3z' : Bool) (o2_3' : List D) (o2_4' o2_5z' : Bool) (o2_5' o4' : List D) => some (D.st [D.st [D.int o2_0', D.sl false o4', D.int o2_2', D.sl o2_3z' o2_3', D.bool o2_4', D.sl o2_5z' o2_5'], D.bool t7'])) (some (D.st [p, D.bool false])) =
          some (if kb N c y (p.f 5).es then .st [.st [.int (x.f 0).n, .sl false (put [y, w] 0 (.st [.int 6, .sl false [y], .int 0, .sl true [], .bool false, .sl (p.f 5).nl (p.f 5).es])), .int (x.f 2).n, .sl (x.f 3).nl (x.f 3).es, .bool (x.f 4).b, .sl (x.f 5).nl (x.f 5).es], .bool true]
            else if kb N c w (p.f 5).es then .st [.st [.int (x.f 0).n, .sl false (put [y, w] 1 (.st [.int 6, .sl false [w], .int 0, .sl true [], .bool false, .sl (p.f 5).nl (p.f 5).es])), .int (x.f 2).n, .sl (x.f 3).nl (x.f 3).es, .bool (x.f 4).b, .sl (x.f 5).nl (x.f 5).es], .bool true]
            else .st [p, .bool false]) := fun m o2 => by
        rw [filters_l0, hk, show ilt 0 2 = true from rfl, cnd_t, show inb 0 (len [y, w]) = true from rfl, cnd_t, show at_ [y, w] (tn 0) = y from rfl, by2, obind_s, b_bool]
        cases kb N c y (p.f 5).es with
        | true =>
          rw [cnd_t, show room (nadd 0 (len [y, w])) 96 = true from room_in (show 2 ≤ 2 ^ 44 by decide) (show 2 * 96 ≤ 2 ^ 44 by decide), cnd_t, cnd_t, rfilter_is, obind_s, nl_sl, es_sl, cnd_t]
          rfl
        | false =>
          rw [cnd_f, filters_l0, hk, show iadd IntKind.i64 0 1 = 1 from by decide, show ilt 1 2 = true from rfl, cnd_t, show inb 1 (len [y, w]) = true from rfl, cnd_t, show at_ [y, w] (tn 1) = w from rfl, bw2, obind_s, b_bool]
          cases kb N c w (p.f 5).es with
          | true =>
            rw [cnd_t, show room (nadd 0 (len [y, w])) 96 = true from room_in (show 2 ≤ 2 ^ 44 by decide) (show 2 * 96 ≤ 2 ^ 44 by decide), cnd_t, cnd_t, rfilter_is, obind_s, nl_sl, es_sl, cnd_t]
            rfl
          | false =>
            rw [cnd_f, filters_l0, show iadd IntKind.i64 1 1 = 2 from by decide, show ilt 2 2 = false from rfl, cnd_f]
            rfl
      obtain ⟨m, hm⟩ : ∃ m, N = m + 3 := ⟨N - 3, by omega⟩
      have hprog := fun z o2 => prog m z o2
      have href := fun o2 => ref m o2
      rw [← hm] at hprog href
      rw [hk, hprog, href]
      have e0 : put [y, w] 0 (.st [.int 6, .sl false [y], .int 0, .sl true [], .bool false, .sl (p.f 5).nl (p.f 5).es]) = [.st [.int 6, .sl false [y], .int 0, .sl true [], .bool false, .sl (p.f 5).nl (p.f 5).es], w] := rfl
      have e1 : put [y, w] 1 (.st [.int 6, .sl false [w], .int 0, .sl true [], .bool false, .sl (p.f 5).nl (p.f 5).es]) = [y, .st [.int 6, .sl false [w], .int 0, .sl true [], .bool false, .sl (p.f 5).nl (p.f 5).es]] := rfl
      rw [e0, e1]
      cases kb N c y (p.f 5).es with
      | true =>
        rw [if_pos rfl]
        refine Ag.refl hN ?_
        simp only [sz, szL]
        omega
      | false =>
        rw [if_neg (by simp)]
        cases kb N c w (p.f 5).es with
        | true =>
          rw [if_pos rfl]
          refine Ag.refl hN ?_
          simp only [sz, szL]
          omega
        | false =>
          rw [if_neg (by simp)]
          exact Ag.refl hN (by omega)
end Go.Ev.S

namespace Go.Ev.S
open Go Go.Ev
set_option linter.unusedVariables false
variable {N : Nat}

theorem any4 (x : D) : ([D.int 4].any fun d => decide ((x.f 0).n = d.n)) = ieq (x.f 0).n 4 := by simp [n_int, ieq]; rfl
theorem any2 (x : D) : ([D.int 2].any fun d => decide ((x.f 0).n = d.n)) = ieq (x.f 0).n 2 := by simp [n_int, ieq]; rfl
theorem any5 (x : D) : ([D.int 5].any fun d => decide ((x.f 0).n = d.n)) = ieq (x.f 0).n 5 := by simp [n_int, ieq]; rfl
theorem any1 (x : D) : ([D.int 1].any fun d => decide ((x.f 0).n = d.n)) = ieq (x.f 0).n 1 := by simp [n_int, ieq]; rfl
theorem any23 (x : D) : ([D.int 2, D.int 3].any fun d => decide ((x.f 0).n = d.n)) = (ieq (x.f 0).n 2 || ieq (x.f 0).n 3) := by simp [n_int, ieq]; rfl

/-- What the document does with a Join, where it is one. -/
noncomputable def joinA (N : Nat) (r : Int) (p c : D) : Option D := cnd (ieq (p.f 0).n 4) (joins_ N (.int r) p c) (some (.st [p, .bool false]))

theorem turn_ag (hN : 16777217 ≤ N) {c p : D} (hp : Pl p) (hs : sz p ≤ 1048576) (hF : Fits N c p) : Ag N (turn_ N (.st [c]) p) (joinA N 5 p c) := by
  have P := hF.pat hN
  unfold joinA
  cases h4' : ieq (p.f 0).n 4 with
  | false => rw [turn_not hN (ieq_not h4'), cnd_f]; exact Ag.refl hN (by omega)
  | true =>
    have h4 := ieq_is h4'
    rw [cnd_t]
    obtain ⟨x, y, hk, px, py, sx, sy, bx, by_⟩ := bd_two hN P hp (by omega) hF.2 h4
    have hnl := nl_of_cons hp hk
    have hsz := hp.size
    have hp' := hp
    obtain ⟨hn, hks⟩ := hp
    rename_i f0 f2 f3 f4 f5 nl ks
    have hk : ks = [x, y] := hk
    subst hk
    have hnl : nl = false := hnl
    subst hnl
    rw [turn_is hN (show f0.n = 4 from h4)]
    unfold joins_ joins
    rw [show (D.f (D.st [f0, .sl false [x, y], f2, f3, f4, f5]) 1).es = [x, y] from rfl, show inb 0 (len [x, y]) = true from rfl, cnd_t, show inb 1 (len [x, y]) = true from rfl, cnd_t, n_int, show ieq 5 5 = true from rfl, cnd_t, at_1, at_2]
    refine Ag.eqv hN ⟨h4.symm, rfl, rfl, rfl, rfl, rfl⟩ ?_
    have hsz : szL [x, y] + szL f3.es + szL f5.es + 7 ≤ sz (.st [f0, .sl false [x, y], f2, f3, f4, f5]) := hsz
    simp only [sz, szL] at *
    omega

theorem drop_ag (hN : 16777217 ≤ N) {c p : D} (hp : Pl p) (hs : sz p ≤ 1048576) (hF : Fits N c p) : Ag N (drop_ N (.st [c]) p) (joinA N 6 p c) := by
  have P := hF.pat hN
  unfold joinA drop_ drop
  rw [step_is (by omega) p false [.int 4] (by decide), obind_s, b_bool, any4]
  cases h4 : ieq (p.f 0).n 4 with
  | false => exact Ag.refl hN (by omega)
  | true =>
    have h4 := ieq_is h4
    rw [cnd_t]
    obtain ⟨x, y, hk, px, py, sx, sy, bx, by_⟩ := bd_two hN P hp (by omega) hF.2 h4
    unfold joins_ joins
    rw [hk]
    simp only [bno_t, cnd_f, inb_2, inb_3, cnd_t, at_1, at_2, n_int]
    rw [step_is (by omega) y false [.int 1] (by decide), obind_s, b_bool, any1, show ieq 6 5 = false from rfl, cnd_f, show ieq 6 6 = true from rfl, cnd_t]
    cases h1 : ieq (y.f 0).n 1 with
    | false =>
      rw [cnd_f, obind_s, cnd_f, show ieq 6 7 = false from rfl, cnd_f, obind_s, cnd_f]
      exact Ag.refl hN (by omega)
    | true =>
      rw [cnd_t, knows_val hN px (by omega) _ (by rw [es_sl]; exact (by decide : 1 ≤ 16777215)), es_sl, rknows_val hN px (by omega)]
      cases kn N c x [.int (y.f 2).n] with
      | false => exact Ag.refl hN (by omega)
      | true => exact Ag.refl hN (by omega)

theorem chain_ag (hN : 16777217 ≤ N) {c p : D} (hp : Pl p) (hs : sz p ≤ 1048576) (hF : Fits N c p) : Ag N (chain_ N (.st [c]) p) (joinA N 7 p c) := by
  have P := hF.pat hN
  unfold joinA chain_ chain
  rw [step_is (by omega) p false [.int 4] (by decide), obind_s, b_bool, any4]
  cases h4 : ieq (p.f 0).n 4 with
  | false => exact Ag.refl hN (by omega)
  | true =>
    have h4 := ieq_is h4
    rw [cnd_t]
    obtain ⟨x, y, hk, px, py, sx, sy, bx, by_⟩ := bd_two hN P hp (by omega) hF.2 h4
    have s1 := hp.size
    rw [hk] at s1
    simp only [szL] at s1
    unfold joins_ joins
    rw [hk]
    simp only [bno_t, cnd_f, inb_2, inb_3, cnd_t, at_1, at_2, n_int]
    rw [step_is (by omega) y false [.int 2, .int 3] (by decide), obind_s, b_bool, any23, obind_s, show ieq 7 5 = false from rfl, cnd_f, show ieq 7 6 = false from rfl, cnd_f, obind_s, cnd_f, show ieq 7 7 = true from rfl, cnd_t]
    have h2 : ∀ b1 b2 : Bool, cnd b1 (some true) (some b2) = some (b1 || b2) := fun b1 b2 => by cases b1 <;> rfl
    rw [h2, obind_s]
    cases hop : (ieq (y.f 0).n 2 || ieq (y.f 0).n 3) with
    | false => exact Ag.refl hN (by omega)
    | true =>
      have hop : (y.f 0).n = 2 ∨ (y.f 0).n = 3 := by
        rw [Bool.or_eq_true] at hop
        exact hop.imp ieq_is ieq_is
      obtain ⟨w, hw, pw, sw, bw, nlw⟩ := bd_one hN P py (by omega) by_ (by omega)
      rw [bno_t, cnd_f, hw]
      simp only [inb_1, cnd_t, at_1]
      rw [step_is (by omega) w false [.int 1] (by decide), obind_s, b_bool, any1]
      cases h1 : ieq (w.f 0).n 1 with
      | false => exact Ag.refl hN (by omega)
      | true =>
        rw [bno_t, cnd_f, cnd_t, knows_val hN px (by omega) _ (by rw [es_sl]; exact (by decide : 1 ≤ 16777215)), es_sl, rknows_val hN px (by omega), obind_s, b_bool, obind_s, obind_s, b_bool, obind_s]
        cases kn N c x [.int (w.f 2).n] with
        | false => exact Ag.refl hN (by omega)
        | true =>
          have hrep : ∀ q, replaced_ N y (.int 0) q = some (.st [.int (y.f 0).n, .sl false (put (y.f 1).es 0 q), .int (y.f 2).n, .sl (y.f 3).nl (y.f 3).es, .bool (y.f 4).b, .sl (y.f 5).nl (y.f 5).es]) := fun q =>
            replaced_is (N := N) (p := y) (c := q) (i := 0) nlw (by rw [hw]; exact Nat.succ_pos _) (by rw [hw]; exact (by decide : 1 ≤ 16777215))
          rw [bno_t, cnd_f, cnd_t, hrep, obind_s, over_is, obind_s, hw]
          refine Ag.eqv hN ⟨rfl, rfl, rfl, rfl, rfl, rfl⟩ ?_
          have s2 := py.size
          rw [hw] at s2
          have e : put [w] 0 x = [x] := rfl
          rw [e]
          simp only [sz, szL] at *
          omega

theorem one_ag (hN : 16777217 ≤ N) {c p : D} (hp : Pl p) (hs : sz p ≤ 1048576) (hF : Fits N c p) (he : (p.f 3).nl = true → (p.f 3).es = []) : Ag N (one_ N (.st [c]) p) (meets14_ N (.int 10) p c) := by
  have P := hF.pat hN
  have s1 := hp.size
  have l3 := szL_len (p.f 3).es
  unfold one_ one meets14_ meets14
  rw [step_is (by omega) p false [.int 5] (by decide), obind_s, b_bool, any5, n_int, show ieq 10 10 = true from rfl, cnd_t]
  cases h5 : ieq (p.f 0).n 5 with
  | false =>
    rw [cnd_f, obind_s, cnd_f, bno_f, cnd_t, obind_s, cnd_t]
    cases h2 : ieq (p.f 0).n 2 with
    | false => exact Ag.refl hN (by omega)
    | true =>
      have h2 := ieq_is h2
      obtain ⟨x, hx, px, sx, bx, nlx⟩ := bd_one hN P hp (by omega) hF.2 (by omega)
      obtain ⟨e1, e2, e3⟩ := (bd_edges hN P hp (by omega) hF.2).2 (.inl h2)
      have hi : inb 0 (len (p.f 3).es) = true := inb_in (by unfold len; omega)
      simp only [bno_t, cnd_f, hx, inb_1, cnd_t, hi, show ieq 10 8 = false from rfl, obind_s, show ieq 10 9 = false from rfl]
      exact Ag.refl hN (by omega)
  | true =>
    have h5 := ieq_is h5
    rw [bno_t, cnd_f, cnd_t, obind_s, obind_s]
    cases h1 : ieq (ilen (len (p.f 3).es)) 1 with
    | false =>
      rw [bno_f, cnd_t, cnd_f, ieq_no (show ¬ (p.f 0).n = 2 by omega), bno_f, cnd_t]
      exact Ag.refl hN (by omega)
    | true =>
      have h1 := ieq_is h1
      unfold ilen len at h1
      obtain ⟨q1, q2⟩ := (bd_edges hN P hp (by omega) hF.2).1 h5 0 (by omega)
      have hnl : (p.f 3).nl = false := by
        cases hq : (p.f 3).nl with
        | false => rfl
        | true => rw [he hq] at h1; simp at h1
      have hcl : CloneI_ N (.sl (p.f 3).nl (p.f 3).es) = some (.sl false (p.f 3).es) := by
        unfold CloneI_ CloneI
        rw [nl_sl, es_sl, hnl, cnd_f, nadd_c, len_c, room_in (by omega) (by omega), cnd_t]
      have hi : inb 0 (len (p.f 3).es) = true := inb_in (by unfold len; omega)
      have hi2 : inb (at_ (p.f 3).es 0).n (len (c.f 1).es) = true := inb_in (by unfold len; omega)
      rw [hcl]
      simp only [bno_t, cnd_f, obind_s, hi, cnd_t, show (D.f (D.st [c]) 0) = c from rfl, hi2, nl_sl, es_sl]
      refine Ag.eqv hN ⟨rfl, rfl, rfl, rfl, rfl, rfl⟩ ?_
      simp only [sz, szL]
      omega

theorem at_one {l : List D} (h : l.length = 1) : l = [at_ l 0] := by
  match l, h with
  | [x], _ => rfl

theorem snoc_n (l : List D) (e : D) (i : Nat) : (at_ (l ++ [e]) i).n = (at_ (l ++ [D.int e.n]) i).n := by
  unfold at_
  rw [List.getD_eq_getElem?_getD, List.getD_eq_getElem?_getD]
  by_cases h : i < l.length
  · rw [List.getElem?_append_left h, List.getElem?_append_left h]
  · rw [List.getElem?_append_right (by omega), List.getElem?_append_right (by omega)]
    cases i - l.length with
    | zero => rfl
    | succ j => rfl

theorem meet_ag (hN : 16777217 ≤ N) {c p : D} (hp : Pl p) (hs : sz p ≤ 1048576) (hF : Fits N c p) : Ag N (meet_ N (.st [c]) p) (meets14_ N (.int 8) p c) := by
  have P := hF.pat hN
  have s1 := hp.size
  unfold meet_ meet meets14_ meets14
  rw [step_is (by omega) p false [.int 2] (by decide), obind_s, b_bool, any2, n_int, show ieq 8 10 = false from rfl, cnd_f, obind_s, cnd_f]
  cases h2 : ieq (p.f 0).n 2 with
  | false => exact Ag.refl hN (by omega)
  | true =>
    have h2 := ieq_is h2
    obtain ⟨x, hx, px, sx, bx, nlx⟩ := bd_one hN P hp (by omega) hF.2 (by omega)
    obtain ⟨e1, e2, e3⟩ := (bd_edges hN P hp (by omega) hF.2).2 (.inl h2)
    have hi : inb 0 (len (p.f 3).es) = true := inb_in (by unfold len; omega)
    simp only [bno_t, cnd_f, hx, inb_1, at_1, cnd_t, hi, show ieq 8 8 = true from rfl, obind_s]
    rw [step_is (by omega) x false [.int 2] (by decide), obind_s, b_bool, any2, obind_s]
    cases h2x : ieq (x.f 0).n 2 with
    | false => exact Ag.refl hN (by omega)
    | true =>
      have h2x := ieq_is h2x
      obtain ⟨y, hy, py, sy, by_, nly⟩ := bd_one hN P px (by omega) bx (by omega)
      obtain ⟨g1, g2, g3⟩ := (bd_edges hN P px (by omega) bx).2 (.inl h2x)
      have s2 := px.size
      rw [hx] at s1
      rw [hy] at s2
      simp only [szL] at s1 s2
      obtain ⟨b, hb⟩ := catI_is hN false (.sl (x.f 3).nl (x.f 3).es) (.sl (p.f 3).nl (p.f 3).es) (by rw [es_sl]; omega) (by rw [es_sl]; omega)
      simp only [es_sl] at hb
      rw [hb]
      have hi1 : inb 0 (len (x.f 3).es) = true := inb_in (by unfold len; omega)
      have hi2 : inb (at_ (x.f 3).es 0).n (len (c.f 1).es) = true := inb_in (by unfold len; omega)
      simp only [bno_t, cnd_f, cnd_t, show (D.f (D.st [c]) 0) = c from rfl, hi1, hi2, hy, inb_1, at_1]
      rw [show at_ (c.f 1).es (tn (at_ (x.f 3).es 0).n) = eE c x from rfl, rEnds_val]
      simp only [obind_s, st_1, n_int, nl_sl, es_sl]
      rw [rknows_val hN py (by omega), obind_s, b_bool, rtouches_val hN py (by omega) ⟨e2, e3⟩, obind_s, b_bool]
      have sim : ∀ (z : Bool) (v : Int), Ag N (some (.st [.st [.int 5, .sl (x.f 1).nl [y], .int v, .sl b ((x.f 3).es ++ (p.f 3).es), .bool false, .sl true []], .bool true])) (some (.st [.st [.int 5, .sl false [y], .int v, .sl false [.int (at_ (x.f 3).es 0).n, .int (at_ (p.f 3).es 0).n], .bool false, .sl true []], .bool true])) := fun z v => by
        refine Ag.sim hN (fun m hm => ⟨rfl, rfl, rfl, rfl, ?_, fun i hi => ?_, rfl, fun i hi => ?_⟩) ?_
        · show ((x.f 3).es ++ (p.f 3).es).length = 2
          rw [List.length_append]; omega
        · have hi : i < ((x.f 3).es ++ (p.f 3).es).length := hi
          rw [List.length_append] at hi
          show (at_ ((x.f 3).es ++ (p.f 3).es) i).n = (at_ [D.int (at_ (x.f 3).es 0).n, D.int (at_ (p.f 3).es 0).n] i).n
          rw [at_one g1, at_one e1]
          rcases (by omega : i = 0 ∨ i = 1) with rfl | rfl <;> rfl
        · have hi : i < 1 := hi
          obtain rfl : i = 0 := by omega
          exact SamePlan_is hN m y y (Eqv.refl y) (by omega) (by omega)
        · simp only [sz, szL, szL_app]
          omega
      have fin : ∀ v : Int, Ag N (obind (obind (knows_ N (D.st [c]) y (D.sl false [D.int v])) fun (d : D) => cnd (D.b d) (some true) (obind (touches_ N (D.st [c]) y (D.int (D.n (at_ (p.f 3).es 0))) (D.int v)) fun (d : D) => some (bno (D.b d)))) fun (b_2 : Bool) => cnd b_2 (some (D.st [p, D.bool false])) (some (D.st [D.st [D.int 5, D.sl (D.nl (D.f x 1)) [y], D.int v, D.sl b ((x.f 3).es ++ (p.f 3).es), D.bool false, D.sl true []], D.bool true])))
          (obind (cnd (bno (kn N c y [.int v])) (some (tc N c y (at_ (p.f 3).es 0).n v)) (some false)) fun (b_3 : Bool) => cnd b_3 (some (D.st [D.st [D.int 5, D.sl false [y], D.int v, D.sl false [D.int (D.n (at_ (x.f 3).es 0)), D.int (D.n (at_ (p.f 3).es 0))], D.bool false, D.sl true []], D.bool true])) (some (D.st [p, D.bool false]))) := fun v => by
        rw [knows_val hN py (by omega) _ (by rw [es_sl]; exact (by decide : 1 ≤ 16777215)), es_sl, obind_s, b_bool, touches_val hN py (by omega) ⟨e2, e3⟩, obind_s, b_bool]
        cases kn N c y [.int v] with
        | true => exact Ag.refl hN (by omega)
        | false =>
          cases tc N c y (at_ (p.f 3).es 0).n v with
          | false => exact Ag.refl hN (by omega)
          | true => exact sim false v
      unfold eD
      cases hbk : (x.f 4).b with
      | true => rw [cnd_t, if_pos rfl]; exact fin _
      | false => rw [cnd_f, if_neg (by simp)]; exact fin _

theorem more_ag (hN : 16777217 ≤ N) {c p : D} (hp : Pl p) (hs : sz p ≤ 1048576) (hF : Fits N c p) : Ag N (more_ N (.st [c]) p) (meets14_ N (.int 9) p c) := by
  have P := hF.pat hN
  have s1 := hp.size
  unfold more_ more meets14_ meets14
  rw [step_is (by omega) p false [.int 2] (by decide), obind_s, b_bool, any2, n_int, show ieq 9 10 = false from rfl, cnd_f, obind_s, cnd_f]
  cases h2 : ieq (p.f 0).n 2 with
  | false => exact Ag.refl hN (by omega)
  | true =>
    have h2 := ieq_is h2
    obtain ⟨x, hx, px, sx, bx, nlx⟩ := bd_one hN P hp (by omega) hF.2 (by omega)
    obtain ⟨e1, e2, e3⟩ := (bd_edges hN P hp (by omega) hF.2).2 (.inl h2)
    have hi : inb 0 (len (p.f 3).es) = true := inb_in (by unfold len; omega)
    simp only [bno_t, cnd_f, hx, inb_1, at_1, cnd_t, hi, show ieq 9 8 = false from rfl, show ieq 9 9 = true from rfl, obind_s]
    rw [step_is (by omega) x false [.int 5] (by decide), obind_s, b_bool, any5, obind_s]
    cases h5x : ieq (x.f 0).n 5 with
    | false => exact Ag.refl hN (by omega)
    | true =>
      have h5x := ieq_is h5x
      obtain ⟨y, hy, py, sy, by_, nly⟩ := bd_one hN P px (by omega) bx (by omega)
      have s2 := px.size
      rw [hx] at s1
      rw [hy] at s2
      simp only [szL] at s1 s2
      have l3 := szL_len (x.f 3).es
      obtain ⟨b, hb⟩ := catI_is hN false (.sl (x.f 3).nl (x.f 3).es) (.sl (p.f 3).nl (p.f 3).es) (by rw [es_sl]; omega) (by rw [es_sl]; omega)
      simp only [es_sl] at hb
      rw [hb]
      simp only [bno_t, cnd_f, cnd_t, hy, inb_1, at_1]
      rw [touches_val hN py (by omega) ⟨e2, e3⟩, rtouches_val hN py (by omega) ⟨e2, e3⟩]
      simp only [obind_s, b_bool, nl_sl, es_sl]
      cases tc N c y (at_ (p.f 3).es 0).n (x.f 2).n with
      | false => exact Ag.refl hN (by omega)
      | true =>
        rw [bno_t, cnd_f, cnd_t, len_c, room_in (by omega) (by omega), cnd_t, nadd_c, room_in (by omega) (by omega), cnd_t, app_c]
        refine Ag.sim hN (fun m hm => ⟨rfl, rfl, rfl, rfl, ?_, fun i hi => ?_, rfl, fun i hi => ?_⟩) ?_
        · show ((x.f 3).es ++ (p.f 3).es).length = ((x.f 3).es ++ [D.int (at_ (p.f 3).es 0).n]).length
          rw [List.length_append, List.length_append, e1]; rfl
        · show (at_ ((x.f 3).es ++ (p.f 3).es) i).n = (at_ ((x.f 3).es ++ [D.int (at_ (p.f 3).es 0).n]) i).n
          have := snoc_n (x.f 3).es (at_ (p.f 3).es 0) i
          rwa [← at_one e1] at this
        · have hi : i < 1 := hi
          obtain rfl : i = 0 := by omega
          exact SamePlan_is hN m y y (Eqv.refl y) (by omega) (by omega)
        · simp only [sz, szL, szL_app]
          omega

/-! ### Any rule -/
theorem rApply_fits (hN : 16777217 ≤ N) {p c : D} (hp : Pl p) (hs : sz p ≤ 16777215) (hF : Fits N c p) (r : Int) : ∃ d : D, rApply_ N (.int r) p c = (obind (some d) fun (d : D) => (obind (cnd (ile 1 r) (some (ile r 4)) (some false)) fun (b_1 : Bool) => cnd b_1 (obind (filters_ N (D.int r) p c) fun (d : D) => some (D.st [D.f d 0, D.bool (D.b (D.f d 1))])) (obind (cnd (ile 5 r) (cnd (ile r 7) (some (ieq (D.n (D.f p 0)) 4)) (some false)) (some false)) fun (b_2 : Bool) => cnd b_2 (obind (joins_ N (D.int r) p c) fun (d : D) => some (D.st [D.f d 0, D.bool (D.b (D.f d 1))])) (obind (cnd (ile 8 r) (some (ile r 10)) (some false)) fun (b_3 : Bool) => cnd b_3 (obind (meets14_ N (D.int r) p c) fun (d : D) => some (D.st [D.f d 0, D.bool (D.b (D.f d 1))])) (some (D.st [p, D.bool false])))))) := by
  rcases rBound_val hN (c := c) hp hs with ⟨_, b, h1, _⟩ | ⟨h1, _⟩
  · refine ⟨.bad, ?_⟩
    unfold rApply_ rApply
    rw [h1, obind_s]
    rfl
  · exact absurd hF h1
theorem rApply_not (hN : 16777217 ≤ N) {p c : D} (hp : Pl p) (hs : sz p ≤ 16777215) (hF : ¬ Fits N c p) (r : D) : rApply_ N r p c = some (.st [p, .bool false]) := by
  rcases rBound_val hN (c := c) hp hs with ⟨h1, _⟩ | ⟨_, e, he, h1⟩
  · exact absurd h1 hF
  · unfold rApply_ rApply
    rw [h1, obind_s, st_1, n_int, ieq_no he]
    rfl

theorem Apply_fits (hN : 16777217 ≤ N) {p c : D} (hp : Pl p) (hs : sz p ≤ 16777215) (hF : Fits N c p) (r : Int) : Apply_ N (.int r) p c = (cnd (ieq r 1) (obind (split_ N (D.st [c]) p) fun (d : D) => some (D.st [D.f d 0, D.bool (D.b (D.f d 1))])) (cnd (ieq r 2) (obind (merge_ N (D.st [c]) p) fun (d : D) => some (D.st [D.f d 0, D.bool (D.b (D.f d 1))])) (cnd (ieq r 3) (obind (down_ N (D.st [c]) p) fun (d : D) => some (D.st [D.f d 0, D.bool (D.b (D.f d 1))])) (cnd (ieq r 4) (obind (sides_ N (D.st [c]) p) fun (d : D) => some (D.st [D.f d 0, D.bool (D.b (D.f d 1))])) (cnd (ieq r 5) (obind (turn_ N (D.st [c]) p) fun (d : D) => some (D.st [D.f d 0, D.bool (D.b (D.f d 1))])) (cnd (ieq r 6) (obind (drop_ N (D.st [c]) p) fun (d : D) => some (D.st [D.f d 0, D.bool (D.b (D.f d 1))])) (cnd (ieq r 7) (obind (chain_ N (D.st [c]) p) fun (d : D) => some (D.st [D.f d 0, D.bool (D.b (D.f d 1))])) (cnd (ieq r 8) (obind (meet_ N (D.st [c]) p) fun (d : D) => some (D.st [D.f d 0, D.bool (D.b (D.f d 1))])) (cnd (ieq r 9) (obind (more_ N (D.st [c]) p) fun (d : D) => some (D.st [D.f d 0, D.bool (D.b (D.f d 1))])) (cnd (ieq r 10) (obind (one_ N (D.st [c]) p) fun (d : D) => some (D.st [D.f d 0, D.bool (D.b (D.f d 1))])) (some (D.st [p, D.bool false])))))))))))) := by
  rcases Bound_is hN (c := c) hp hs with ⟨_, h1⟩ | ⟨h1, _⟩
  · unfold Apply_ Apply
    rw [h1, obind_s]
    rfl
  · exact absurd hF h1

theorem joinA_lift (N : Nat) (r : Int) (p c : D) : (obind (joinA N r p c) fun (d : D) => some (D.st [D.f d 0, D.bool (D.b (D.f d 1))])) = cnd (ieq (p.f 0).n 4) (obind (joins_ N (D.int r) p c) fun (d : D) => some (D.st [D.f d 0, D.bool (D.b (D.f d 1))])) (some (.st [p, .bool false])) := by
  unfold joinA
  cases ieq (p.f 0).n 4 <;> rfl

theorem apply_ag (hN : 16777217 ≤ N) {c p : D} (hp : Pl p) (hs : sz p ≤ 1048576) (he : (p.f 3).nl = true → (p.f 3).es = []) (r : Int) : Ag N (Apply_ N (.int r) p c) (rApply_ N (.int r) p c) := by
  by_cases hF : Fits N c p
  · obtain ⟨d, hd⟩ := rApply_fits hN hp (by omega) hF r
    rw [hd, Apply_fits hN hp (by omega) hF r, obind_s]
    by_cases h1 : r = 1
    · subst h1; exact (split_ag hN hp hs hF).lift
    by_cases h2 : r = 2
    · subst h2; exact (merge_ag hN hp hs hF).lift
    by_cases h3 : r = 3
    · subst h3; exact (down_ag hN hp hs hF).lift
    by_cases h4 : r = 4
    · subst h4; exact (sides_ag hN hp hs hF).lift
    by_cases h5 : r = 5
    · subst h5
      have := (turn_ag hN hp hs hF).lift
      rw [joinA_lift] at this
      exact this
    by_cases h6 : r = 6
    · subst h6
      have := (drop_ag hN hp hs hF).lift
      rw [joinA_lift] at this
      exact this
    by_cases h7 : r = 7
    · subst h7
      have := (chain_ag hN hp hs hF).lift
      rw [joinA_lift] at this
      exact this
    by_cases h8 : r = 8
    · subst h8; exact (meet_ag hN hp hs hF).lift
    by_cases h9 : r = 9
    · subst h9; exact (more_ag hN hp hs hF).lift
    by_cases h10 : r = 10
    · subst h10; exact (one_ag hN hp hs hF he).lift
    rw [ieq_no h1, cnd_f, ieq_no h2, cnd_f, ieq_no h3, cnd_f, ieq_no h4, cnd_f, ieq_no h5, cnd_f, ieq_no h6, cnd_f, ieq_no h7, cnd_f, ieq_no h8, cnd_f, ieq_no h9, cnd_f, ieq_no h10, cnd_f]
    by_cases hlo : r < 1
    · rw [ile_no (show ¬ 1 ≤ r by omega), cnd_f, obind_s, cnd_f, ile_no (show ¬ 5 ≤ r by omega), cnd_f, obind_s, cnd_f, ile_no (show ¬ 8 ≤ r by omega), cnd_f, obind_s, cnd_f]
      exact Ag.refl hN (by omega)
    · rw [ile_in (show 1 ≤ r by omega), cnd_t, ile_no (show ¬ r ≤ 4 by omega), obind_s, cnd_f, ile_in (show 5 ≤ r by omega), cnd_t, ile_no (show ¬ r ≤ 7 by omega), cnd_f, obind_s, cnd_f, ile_in (show 8 ≤ r by omega), cnd_t, ile_no (show ¬ r ≤ 10 by omega), obind_s, cnd_f]
      exact Ag.refl hN (by omega)
  · rw [Apply_not hN hp (by omega) hF, rApply_not hN hp (by omega) hF]
    exact Ag.refl hN (by omega)

theorem lawA (hN : 16777217 ≤ N) (hh : head_ N = some (.bool true)) {r p c : D} (hp : Pl p) (hs : sz p ≤ 1048576) (he : (p.f 3).nl = true → (p.f 3).es = []) : RulesApply_ N r p c = some (.bool true) := by
  obtain ⟨v, hv⟩ := Parts_is hN N p (.int 2000) (by omega) (by omega)
  obtain ⟨x, y, f, a1, a2, a3⟩ := apply_ag hN (c := c) hp hs he r.n
  unfold RulesApply_ RulesApply
  rw [hh, obind_s, hv, obind_s]
  cases ilt 2000 v.n with
  | true => rfl
  | false =>
    rw [cnd_f, a1, obind_s, a2, obind_s, st_0, st_0, a3]
    cases f <;> rfl
end Go.Ev.S
