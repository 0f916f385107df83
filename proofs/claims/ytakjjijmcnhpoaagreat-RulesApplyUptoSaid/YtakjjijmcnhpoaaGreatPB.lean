/- The plain laws: the same plan, parts, rules that split, merge and turn. The plain law of RulesTurns. The plain law of RulesTurns, joined. The plain laws: kids of plans that bind, what a rule may ask of a plan. The plain laws: each rule answers, with a plan that is no greater. -/
import Derived.Test.YtakjjijmcnhpoaaGreatPA
namespace Go.Ev.S
open Go Go.Ev
set_option linter.unusedVariables false
variable {N : Nat}

/-! ### The same -/
theorem SameV_is (hN : 16777217 ≤ N) (a : D) (h : sz a ≤ 16777215) : SameV_ N a a = some (.bool true) := by
  have hl := len_kids a 4
  unfold SameV_ SameV
  rw [ieq_in rfl, bno_t, cnd_f]
  rcases any_loop (fun n i => SameV_l0 N n i a a (fun (t4' : Bool) => some (D.bool t4')) (obind (cnd (ieq (D.n (D.f a 0)) (D.n (D.f a 0))) (cnd (beqb (D.b (D.f a 1)) (D.b (D.f a 1))) (cnd (ieq (D.n (D.f a 2)) (D.n (D.f a 2))) (some (seq_ (D.s (D.f a 3)) (D.s (D.f a 3)))) (some false)) (some false)) (some false)) fun (b : Bool) => some (D.bool b))) (a.f 4).es.length
      (fun i => some (bno (ieq (at_ (a.f 4).es i).n (at_ (a.f 4).es i).n))) (fun _ => some (D.bool false)) (obind (cnd (ieq (D.n (D.f a 0)) (D.n (D.f a 0))) (cnd (beqb (D.b (D.f a 1)) (D.b (D.f a 1))) (cnd (ieq (D.n (D.f a 2)) (D.n (D.f a 2))) (some (seq_ (D.s (D.f a 3)) (D.s (D.f a 3)))) (some false)) (some false)) (some false)) fun (b : Bool) => some (D.bool b))
      (fun n i hi => by simp only [SameV_l0, len_c, ilt_t hi, cnd_t, inb_t hi, tn_c, iadd_1 (show i < 2 ^ 62 by omega), obind_s])
      (fun n => by simp only [SameV_l0, len_c, ilt_f, cnd_f])
      (fun i hi => ⟨_, rfl⟩) N 0 (Nat.zero_le _) (by omega) with ⟨h1, g⟩ | ⟨j, _, h2, h3, g⟩
  · refine g.trans ?_
    rw [ieq_in rfl, ieq_in rfl, show beqb (D.b (D.f a 1)) (D.b (D.f a 1)) = true from by cases D.b (D.f a 1) <;> rfl, show seq_ (D.s (D.f a 3)) (D.s (D.f a 3)) = true from by simp [seq_]]
    rfl
  · rw [ieq_in rfl] at h3; cases h3

theorem SameTerms_same {G : D → D → Option D} (hN : 16777217 ≤ N) {a b : D} (h : a.es = b.es) (hl : a.es.length ≤ 16777215) (hG : ∀ x ∈ a.es, G x x = some (.bool true)) : SameTerms G N a b = some (.bool true) := by
  unfold SameTerms
  rw [ieq_in (by rw [h]), bno_t, cnd_f, ← h]
  rcases any_loop (fun n i => SameTerms_l0 G N n a.nl a.es b.nl a.es i (fun (t4' : Bool) => some (D.bool t4')) (some (D.bool true))) a.es.length
      (fun i => some false) (fun _ => some (D.bool false)) (some (D.bool true))
      (fun n i hi => by simp only [SameTerms_l0, len_c, ilt_t hi, cnd_t, inb_t hi, tn_c, iadd_1 (show i < 2 ^ 62 by omega), hG _ (at_mem hi), obind_s, b_bool, bno_t])
      (fun n => by simp only [SameTerms_l0, len_c, ilt_f, cnd_f])
      (fun i hi => ⟨_, rfl⟩) N 0 (Nat.zero_le _) (by omega) with ⟨h1, g⟩ | ⟨j, _, h2, h3, g⟩
  · exact g
  · cases h3

theorem both_is (hN : 16777217 ≤ N) : ∀ k : Nat, (∀ a, 2 * sz a < k → sz a ≤ 16777215 → SameTerm_ N k a a = some (.bool true)) ∧ (∀ a b : D, a.es = b.es → 2 * szL a.es + 1 < k → szL a.es ≤ 16777215 → SameTerms_ N k a b = some (.bool true))
  | 0 => ⟨fun _ h => by omega, fun _ _ _ h => by omega⟩
  | k + 1 => by
    obtain ⟨h1, h2⟩ := both_is hN k
    refine ⟨fun a h hs => ?_, fun a b e h hs => ?_⟩
    · have e : SameTerm_ N (k + 1) = SameTerm (SameTerms_ N k) (SameV_ N) N := rfl
      have hk := sz_kids a 1
      have h4 := sz_f a 4
      rw [e]
      unfold SameTerm
      rw [SameV_is hN _ (by omega), obind_s, ieq_in rfl, ieq_in rfl, show seq_ (D.s (D.f a 3)) (D.s (D.f a 3)) = true from by simp [seq_], h2 _ _ rfl (by rw [es_sl]; omega) (by rw [es_sl]; omega)]
      rfl
    · have e' : SameTerms_ N (k + 1) = SameTerms (SameTerm_ N k) N := rfl
      rw [e']
      have := szL_len a.es
      exact SameTerms_same hN e (by omega) fun x hx => h1 x (by have := szL_mem hx; omega) (by have := szL_mem hx; omega)

/-- Plans that tell the same. -/
structure Eqv (a b : D) : Prop where
  op : (a.f 0).n = (b.f 0).n
  kids : (a.f 1).es = (b.f 1).es
  slot : (a.f 2).n = (b.f 2).n
  edges : (a.f 3).es = (b.f 3).es
  back : (a.f 4).b = (b.f 4).b
  terms : (a.f 5).es = (b.f 5).es
theorem Eqv.refl (a : D) : Eqv a a := ⟨rfl, rfl, rfl, rfl, rfl, rfl⟩

theorem SamePlan_is (hN : 16777217 ≤ N) : ∀ (k : Nat) (a b : D), Eqv a b → sz a < k → sz a ≤ 4194304 → SamePlan_ N k a b = some (.bool true)
  | 0, _, _, _, h, _ => by omega
  | k + 1, a, b, E, h, hs => by
    have e : SamePlan_ N (k + 1) = SamePlan (SamePlan_ N k) (SameTerms_ N N) N := rfl
    have h5 := sz_kids a 5
    have h3 := len_kids a 3
    have h1 := len_kids a 1
    rw [e]
    unfold SamePlan
    rw [(both_is hN N).2 (.sl (a.f 5).nl (a.f 5).es) (.sl (b.f 5).nl (b.f 5).es) E.terms (by rw [es_sl]; omega) (by rw [es_sl]; omega), obind_s, E.op, ieq_in rfl, ieq_in (show ilen (len (a.f 1).es) = ilen (len (b.f 1).es) by rw [E.kids]), ieq_in E.slot, ieq_in (show ilen (len (a.f 3).es) = ilen (len (b.f 3).es) by rw [E.edges]), E.back, show beqb (b.f 4).b (b.f 4).b = true from by cases (b.f 4).b <;> rfl]
    refine (obind_s _ _).trans ?_
    refine (cnd_f _ _).trans ?_
    rcases any_loop (fun n i => SamePlan_l0 (SamePlan_ N k) (SameTerms_ N N) N n i a b (fun (t4' : Bool) => some (D.bool t4')) (SamePlan_l1 (SamePlan_ N k) (SameTerms_ N N) N N 0 a b (fun (t4' : Bool) => some (D.bool t4')) (some (D.bool true)))) (a.f 3).es.length
      (fun i => some false) (fun _ => some (D.bool false)) (SamePlan_l1 (SamePlan_ N k) (SameTerms_ N N) N N 0 a b (fun (t4' : Bool) => some (D.bool t4')) (some (D.bool true)))
      (fun n i hi => by simp only [SamePlan_l0, ← E.edges, len_c, ilt_t hi, cnd_t, inb_t hi, tn_c, iadd_1 (show i < 2 ^ 62 by omega), obind_s, ieq_in rfl, bno_t])
      (fun n => by simp only [SamePlan_l0, len_c, ilt_f, cnd_f])
      (fun i hi => ⟨_, rfl⟩) N 0 (Nat.zero_le _) (by omega) with ⟨_, g⟩ | ⟨j, _, _, h3, g⟩
    · refine g.trans ?_
      rcases any_loop (fun n i => SamePlan_l1 (SamePlan_ N k) (SameTerms_ N N) N n i a b (fun (t4' : Bool) => some (D.bool t4')) (some (D.bool true))) (a.f 1).es.length
        (fun i => some false) (fun _ => some (D.bool false)) (some (D.bool true))
        (fun n i hi => by
          have hk := sz_kid (at_mem hi)
          have := SamePlan_is hN k (at_ (a.f 1).es i) _ (Eqv.refl _) (by omega) (by omega)
          simp only [SamePlan_l1, ← E.kids, len_c, ilt_t hi, cnd_t, inb_t hi, tn_c, iadd_1 (show i < 2 ^ 62 by omega), obind_s, this, b_bool, bno_t])
        (fun n => by simp only [SamePlan_l1, len_c, ilt_f, cnd_f])
        (fun i hi => ⟨_, rfl⟩) N 0 (Nat.zero_le _) (by omega) with ⟨_, g⟩ | ⟨j, _, _, h3, g⟩
      · exact g
      · cases h3
    · cases h3

/-! ### Parts -/
theorem terms_l0_is {G : D → D → Option D} {o0 : D} {t1 : Int} (hl : (o0.f 1).es.length ≤ 16777215) (hG : ∀ x ∈ (o0.f 1).es, ∀ y, ∃ d, G x y = some d) {k : Int → Option D} : ∀ (n i : Nat) (t5 : Int), i ≤ (o0.f 1).es.length → (o0.f 1).es.length - i < n → ∃ v, terms_l0 G N n t1 t5 (i : Int) o0 k = k v
  | 0, i, _, _, h => by omega
  | n + 1, i, t5, hi, h => by
    by_cases e : i = (o0.f 1).es.length
    · subst e
      exact ⟨t5, by simp only [terms_l0, len_c, ilt_f, cnd_f, obind_s]⟩
    · have hlt : i < (o0.f 1).es.length := by omega
      simp only [terms_l0, len_c, ilt_t hlt, cnd_t, obind_s, inb_t hlt, tn_c, iadd_1 (show i < 2 ^ 62 by omega)]
      cases ile t5 t1 with
      | false => exact ⟨_, rfl⟩
      | true =>
        rw [cnd_t]
        obtain ⟨d, hd⟩ := hG _ (at_mem hlt) (D.int (isub IntKind.i64 t1 t5))
        rw [hd, obind_s]
        exact terms_l0_is hl hG n (i + 1) _ (by omega) (by omega)
theorem terms_is (hN : 16777217 ≤ N) : ∀ (k : Nat) (a b : D), sz a < k → sz a ≤ 16777215 → ∃ d, terms_ N k a b = some d
  | 0, _, _, h, _ => by omega
  | k + 1, a, b, h, hs => by
    have hl := len_kids a 1
    obtain ⟨v, hv⟩ := terms_l0_is (N := N) (G := terms_ N k) (o0 := a) (t1 := b.n) (by omega) (fun x hx y => terms_is hN k x y (by have := sz_kid hx; omega) (by have := sz_kid hx; omega)) (k := fun (t5' : Int) => some (D.int t5')) N 0 1 (Nat.zero_le _) (by omega)
    exact ⟨_, hv⟩
theorem Parts_l0_is {X G : D → D → Option D} {o0 : D} {t1 : Int} (hl : (o0.f 5).es.length ≤ 16777215) (hG : ∀ x ∈ (o0.f 5).es, ∀ y, ∃ d, G x y = some d) {k : Int → Option D} : ∀ (n i : Nat) (t5 : Int), i ≤ (o0.f 5).es.length → (o0.f 5).es.length - i < n → ∃ v, Parts_l0 X G N n t1 t5 (i : Int) o0 k = k v
  | 0, i, _, _, h => by omega
  | n + 1, i, t5, hi, h => by
    by_cases e : i = (o0.f 5).es.length
    · subst e
      exact ⟨t5, by simp only [Parts_l0, len_c, ilt_f, cnd_f, obind_s]⟩
    · have hlt : i < (o0.f 5).es.length := by omega
      simp only [Parts_l0, len_c, ilt_t hlt, cnd_t, obind_s, inb_t hlt, tn_c, iadd_1 (show i < 2 ^ 62 by omega)]
      cases ile t5 t1 with
      | false => exact ⟨_, rfl⟩
      | true =>
        rw [cnd_t]
        obtain ⟨d, hd⟩ := hG _ (at_mem hlt) (D.int (isub IntKind.i64 t1 t5))
        rw [hd, obind_s]
        exact Parts_l0_is hl hG n (i + 1) _ (by omega) (by omega)
theorem Parts_l1_is {G X : D → D → Option D} {o0 : D} {t1 : Int} (hl : (o0.f 1).es.length ≤ 16777215) (hG : ∀ x ∈ (o0.f 1).es, ∀ y, ∃ d, G x y = some d) {k : Int → Option D} : ∀ (n i : Nat) (t5 : Int), i ≤ (o0.f 1).es.length → (o0.f 1).es.length - i < n → ∃ v, Parts_l1 G X N n t1 t5 (i : Int) o0 k = k v
  | 0, i, _, _, h => by omega
  | n + 1, i, t5, hi, h => by
    by_cases e : i = (o0.f 1).es.length
    · subst e
      exact ⟨t5, by simp only [Parts_l1, len_c, ilt_f, cnd_f, obind_s]⟩
    · have hlt : i < (o0.f 1).es.length := by omega
      simp only [Parts_l1, len_c, ilt_t hlt, cnd_t, obind_s, inb_t hlt, tn_c, iadd_1 (show i < 2 ^ 62 by omega)]
      cases ile t5 t1 with
      | false => exact ⟨_, rfl⟩
      | true =>
        rw [cnd_t]
        obtain ⟨d, hd⟩ := hG _ (at_mem hlt) (D.int (isub IntKind.i64 t1 t5))
        rw [hd, obind_s]
        exact Parts_l1_is hl hG n (i + 1) _ (by omega) (by omega)
theorem Parts_is (hN : 16777217 ≤ N) : ∀ (k : Nat) (a b : D), sz a < k → sz a ≤ 16777215 → ∃ d, Parts_ N k a b = some d
  | 0, _, _, h, _ => by omega
  | k + 1, a, b, h, hs => by
    have hl := len_kids a 1
    have hl5 := len_kids a 5
    have e : Parts_ N (k + 1) = Parts (Parts_ N k) (terms_ N N) N := rfl
    rw [e]
    unfold Parts
    obtain ⟨v, hv⟩ := Parts_l0_is (N := N) (X := Parts_ N k) (G := terms_ N N) (o0 := a) (t1 := b.n) (by omega) (fun x hx y => terms_is hN N x y (by have := sz_kid hx; omega) (by have := sz_kid hx; omega)) (k := fun (t5' : Int) => Parts_l1 (Parts_ N k) (terms_ N N) N N (D.n b) t5' 0 a fun (t5' : Int) => some (D.int t5')) N 0 (iadd IntKind.i64 (iadd IntKind.i64 1 (ilen (len (D.es (D.f a 5))))) (ilen (len (D.es (D.f a 3))))) (Nat.zero_le _) (by omega)
    obtain ⟨w, hw⟩ := Parts_l1_is (N := N) (G := Parts_ N k) (X := terms_ N N) (o0 := a) (t1 := b.n) (by omega) (fun x hx y => Parts_is hN k x y (by have := sz_kid hx; omega) (by have := sz_kid hx; omega)) (k := fun (t5' : Int) => some (D.int t5')) N 0 v (Nat.zero_le _) (by omega)
    exact ⟨_, hv.trans hw⟩

/-! ### What a plan binds, as one word -/
noncomputable def bd (N : Nat) (c p : D) : D := (bound_ N N (ctx c) p).getD (.sl true [])
theorem bd_is (hN : 16777217 ≤ N) {c : D} (P : Pat c) {p : D} (hp : Pl p) (hs : sz p ≤ 16777215) {k : Nat} (hk : sz p < k) : bound_ N k (ctx c) p = some (bd N c p) ∧ Fine c (bd N c p) := by
  obtain ⟨r, h1, h2, h3⟩ := bound_is hN P N p hp (by omega) hs
  have : bd N c p = r := by unfold bd; rw [h1]; rfl
  rw [this]
  exact ⟨h3 k hk, h2⟩

/-- What is bound: the plan's node has as many kids as it should, and each binds. -/
theorem bd_kids (hN : 16777217 ≤ N) {c : D} (P : Pat c) {f0 f2 f3 f4 f5 : D} {nl : Bool} {ks : List D} (hp : Pl (.st [f0, .sl nl ks, f2, f3, f4, f5])) (hs : sz (.st [f0, .sl nl ks, f2, f3, f4, f5]) ≤ 16777215) (h : (bd N c (.st [f0, .sl nl ks, f2, f3, f4, f5])).nl = false) :
    (f0.n = 1 ∧ ks = []) ∨ ((f0.n = 2 ∨ f0.n = 3 ∨ f0.n = 5 ∨ f0.n = 6) ∧ ∃ x, ks = [x] ∧ (bd N c x).nl = false) ∨ (f0.n = 4 ∧ ∃ x y, ks = [x, y] ∧ (bd N c x).nl = false ∧ (bd N c y).nl = false) := by
  obtain ⟨hb, hf⟩ := bd_is hN P hp hs (k := sz (.st [f0, .sl nl ks, f2, f3, f4, f5]) + 1) (by omega)
  have hks : ∀ x ∈ ks, Pl x := by cases hp; assumption
  have bad : ∀ r : D, bound_ N (sz (.st [f0, .sl nl ks, f2, f3, f4, f5]) + 1) (ctx c) (.st [f0, .sl nl ks, f2, f3, f4, f5]) = some r → r.nl = true → False := fun r g hr => by
    rw [hb] at g; cases g; rw [h] at hr; cases hr
  match ks, hks, hs, hb, hf, bad with
  | [], hks, hs, hb, hf, bad =>
    left
    rcases bound0_is (Gb := binds_ N) (X := bound_ N (sz (.st [f0, .sl nl [], f2, f3, f4, f5]))) (Y := bound_ N 0) (Ge := edge_ N) (Gm := meetB_ N) (N := N) P f0 f2 f3 f4 f5 nl with ⟨h1, g⟩ | ⟨h1, _⟩
    · exact (bad _ g rfl).elim
    · exact ⟨h1, rfl⟩
  | [x], hks, hs, hb, hf, bad =>
    right; left
    have hx := sz_sub (f0 := f0) (f2 := f2) (f3 := f3) (f4 := f4) (f5 := f5) (nl := nl) (List.mem_singleton.2 rfl : x ∈ [x])
    have hd := bd_is hN P (hks x (List.mem_singleton.2 rfl)) (by omega) hx
    rcases bound1_is (Gb := binds_ N) (X := bound_ N (sz (.st [f0, .sl nl [x], f2, f3, f4, f5]))) (Ge := edge_ N) (Gm := meetB_ N) (N := N) P f0 x f2 f3 f4 f5 nl with ⟨h1, g⟩ | ⟨h1, g⟩
    · exact (bad _ g rfl).elim
    · refine ⟨h1, x, rfl, ?_⟩
      cases hn : (bd N c x).nl with
      | false => rfl
      | true =>
        rw [hd.1, obind_s] at g
        unfold kid1 at g
        rw [hn, cnd_t] at g
        exact (bad _ g rfl).elim
  | [x, y], hks, hs, hb, hf, bad =>
    right; right
    have hx := sz_sub (f0 := f0) (f2 := f2) (f3 := f3) (f4 := f4) (f5 := f5) (nl := nl) (by simp : x ∈ [x, y])
    have hy := sz_sub (f0 := f0) (f2 := f2) (f3 := f3) (f4 := f4) (f5 := f5) (nl := nl) (by simp : y ∈ [x, y])
    have hd := bd_is hN P (hks x (by simp)) (by omega) hx
    have he := bd_is hN P (hks y (by simp)) (by omega) hy
    rcases bound2_is (Gb := binds_ N) (X := bound_ N (sz (.st [f0, .sl nl [x, y], f2, f3, f4, f5]))) (Ge := edge_ N) (Gm := meetB_ N) (N := N) P f0 x y f2 f3 f4 f5 nl with ⟨h1, g⟩ | ⟨h1, g⟩
    · exact (bad _ g rfl).elim
    · refine ⟨h1, x, y, rfl, ?_⟩
      rw [hd.1, obind_s, he.1, obind_s] at g
      cases hn : (bd N c x).nl with
      | true => rw [hn, cnd_t] at g; exact (bad _ g rfl).elim
      | false =>
        cases hm : (bd N c y).nl with
        | false => exact ⟨rfl, rfl⟩
        | true =>
          rw [hn, cnd_f] at g
          unfold kid2 at g
          rw [hn, hm, cnd_f, cnd_t] at g
          exact (bad _ g rfl).elim
  | x :: y :: z :: ks, hks, hs, hb, hf, bad =>
    exact (bad _ (boundG_is (Gb := binds_ N) (X := bound_ N (sz (.st [f0, .sl nl (x :: y :: z :: ks), f2, f3, f4, f5]))) (Ge := edge_ N) (Gm := meetB_ N) (N := N) (ctx c) (.st [f0, .sl nl (x :: y :: z :: ks), f2, f3, f4, f5]) (by show 3 ≤ (x :: y :: z :: ks).length; simp)) rfl).elim

/-- A filter binds what its kid binds, if all its terms are bound. -/
theorem bd_filter (hN : 16777217 ≤ N) {c : D} (P : Pat c) {f0 x f2 f3 f4 f5 : D} {nl : Bool} (hp : Pl (.st [f0, .sl nl [x], f2, f3, f4, f5])) (hs : sz (.st [f0, .sl nl [x], f2, f3, f4, f5]) ≤ 16777215) (h6 : f0.n = 6) :
    bd N c (.st [f0, .sl nl [x], f2, f3, f4, f5]) = if (bd N c x).nl = false ∧ f5.es.all (bnds N (bd N c x).es) = true then bd N c x else .sl true [] := by
  have hks : Pl x := by cases hp with | mk _ h => exact h x (List.mem_singleton.2 rfl)
  have hx := sz_sub (f0 := f0) (f2 := f2) (f3 := f3) (f4 := f4) (f5 := f5) (nl := nl) (List.mem_singleton.2 rfl : x ∈ [x])
  have hb := bd_is hN P hp hs (k := sz (.st [f0, .sl nl [x], f2, f3, f4, f5]) + 1) (by omega)
  have hd := bd_is hN P hks (by omega) hx
  rcases bound1_is (Gb := binds_ N) (X := bound_ N (sz (.st [f0, .sl nl [x], f2, f3, f4, f5]))) (Ge := edge_ N) (Gm := meetB_ N) (N := N) P f0 x f2 f3 f4 f5 nl with ⟨h1, g⟩ | ⟨h1, g⟩
  · exact absurd h6 h1.2.2.2
  · rw [hd.1, obind_s] at g
    obtain ⟨r, r1, _, r2, _⟩ := kid1_is hN P (.st [f0, .sl nl [x], f2, f3, f4, f5]) hs hd.2
    rw [r1] at g
    have := hb.1.symm.trans g
    rw [Option.some.inj this]
    exact r2 h6
/-- A join binds if both kids bind apart. -/
theorem bd_join (hN : 16777217 ≤ N) {c : D} (P : Pat c) {f0 x y f2 f3 f4 f5 : D} {nl : Bool} (hp : Pl (.st [f0, .sl nl [x, y], f2, f3, f4, f5])) (hs : sz (.st [f0, .sl nl [x, y], f2, f3, f4, f5]) ≤ 16777215) (h4 : f0.n = 4) :
    (bd N c (.st [f0, .sl nl [x, y], f2, f3, f4, f5])).nl = false ↔ (bd N c x).nl = false ∧ (bd N c y).nl = false ∧ apart (c.f 0).es.length (bd N c x).es (bd N c y).es := by
  have hks : ∀ k ∈ [x, y], Pl k := by cases hp; assumption
  have hx := sz_sub (f0 := f0) (f2 := f2) (f3 := f3) (f4 := f4) (f5 := f5) (nl := nl) (by simp : x ∈ [x, y])
  have hy := sz_sub (f0 := f0) (f2 := f2) (f3 := f3) (f4 := f4) (f5 := f5) (nl := nl) (by simp : y ∈ [x, y])
  have hb := bd_is hN P hp hs (k := sz (.st [f0, .sl nl [x, y], f2, f3, f4, f5]) + 1) (by omega)
  have hd := bd_is hN P (hks x (by simp)) (by omega) hx
  have he := bd_is hN P (hks y (by simp)) (by omega) hy
  rcases bound2_is (Gb := binds_ N) (X := bound_ N (sz (.st [f0, .sl nl [x, y], f2, f3, f4, f5]))) (Ge := edge_ N) (Gm := meetB_ N) (N := N) P f0 x y f2 f3 f4 f5 nl with ⟨h1, g⟩ | ⟨h1, g⟩
  · exact absurd h4 h1
  · rw [hd.1, obind_s, he.1, obind_s] at g
    obtain ⟨r, r1, r2, r3⟩ := kid2_is hN (Gb := binds_ N) (Ge := edge_ N) (Gm := meetB_ N) P hd.2 he.2
    have r3' : (cnd (bd N c x).nl (some (D.sl true [])) (kid2 (binds_ N) (edge_ N) (meetB_ N) N (ctx c) (bd N c x) (bd N c y))) = some r := by
      rw [← r1]; unfold kid2; cases (bd N c x).nl <;> rfl
    rw [r3'] at g
    have := hb.1.symm.trans g
    rw [Option.some.inj this]
    exact r3

/-! ### Bound and the first words of Apply -/
/-- The pattern is well made and the plan binds. -/
def Fits (N : Nat) (c p : D) : Prop := pattern_ N c = some (.bool true) ∧ (bd N c p).nl = false
theorem Fits.pat (hN : 16777217 ≤ N) {c p : D} (h : Fits N c p) : Pat c := by
  obtain ⟨v, h1, h2⟩ := pattern_is hN c
  rw [h.1] at h1
  cases h1
  obtain ⟨p1, p2, p3, p4⟩ := h2 rfl
  exact ⟨p1, p2, p3, p4⟩
theorem Bound_is (hN : 16777217 ≤ N) {c p : D} (hp : Pl p) (hs : sz p ≤ 16777215) : (Fits N c p ∧ Bound_ N p c = some (.st [.sl false (bd N c p).es, .int 0])) ∨ (¬ Fits N c p ∧ ∃ e, e ≠ 0 ∧ Bound_ N p c = some (.st [.sl true [], .int e])) := by
  obtain ⟨v, h1, h2⟩ := pattern_is hN c
  unfold Bound_ Bound
  rw [h1, obind_s]
  cases v with
  | false =>
    right
    exact ⟨fun h => (by rw [h.1] at h1; cases h1), 1, by decide, rfl⟩
  | true =>
    obtain ⟨p1, p2, p3, p4⟩ := h2 rfl
    have hb := bd_is hN (c := c) ⟨p1, p2, p3, p4⟩ hp hs (k := N) (by omega)
    rw [b_bool, bno_t, cnd_f]
    have : bound_ N N (.st [c, .int (ilen (len (c.f 0).es))]) p = some (bd N c p) := hb.1
    rw [this, obind_s]
    cases hn : (bd N c p).nl with
    | true => exact .inr ⟨fun h => (by rw [h.2] at hn; cases hn), 131, by decide, rfl⟩
    | false => exact .inl ⟨⟨h1, hn⟩, rfl⟩

theorem Apply_not (hN : 16777217 ≤ N) {c p : D} (hp : Pl p) (hs : sz p ≤ 16777215) (h : ¬ Fits N c p) (r : D) : Apply_ N r p c = some (.st [p, .bool false]) := by
  rcases Bound_is hN (c := c) hp hs with ⟨h1, _⟩ | ⟨_, e, he, h1⟩
  · exact absurd h1 h
  · unfold Apply_ Apply
    rw [h1, obind_s, show (D.f (D.st [D.sl true [], D.int e]) 1).n = e from rfl, ieq_no he]
    rfl
theorem Apply_5 (hN : 16777217 ≤ N) {c p : D} (hp : Pl p) (hs : sz p ≤ 16777215) (h : Fits N c p) : Apply_ N (.int 5) p c = obind (turn_ N (.st [c]) p) fun d => some (.st [d.f 0, .bool (d.f 1).b]) := by
  rcases Bound_is hN (c := c) hp hs with ⟨_, h1⟩ | ⟨h1, _⟩
  · unfold Apply_ Apply
    rw [h1, obind_s]
    rfl
  · exact absurd h h1
theorem Apply_1 (hN : 16777217 ≤ N) {c p : D} (hp : Pl p) (hs : sz p ≤ 16777215) (h : Fits N c p) : Apply_ N (.int 1) p c = obind (split_ N (.st [c]) p) fun d => some (.st [d.f 0, .bool (d.f 1).b]) := by
  rcases Bound_is hN (c := c) hp hs with ⟨_, h1⟩ | ⟨h1, _⟩
  · unfold Apply_ Apply
    rw [h1, obind_s]
    rfl
  · exact absurd h h1
theorem Apply_2 (hN : 16777217 ≤ N) {c p : D} (hp : Pl p) (hs : sz p ≤ 16777215) (h : Fits N c p) : Apply_ N (.int 2) p c = obind (merge_ N (.st [c]) p) fun d => some (.st [d.f 0, .bool (d.f 1).b]) := by
  rcases Bound_is hN (c := c) hp hs with ⟨_, h1⟩ | ⟨h1, _⟩
  · unfold Apply_ Apply
    rw [h1, obind_s]
    rfl
  · exact absurd h h1

theorem replaced_is {p c : D} {i : Nat} (hn : (p.f 1).nl = false) (hi : i < (p.f 1).es.length) (hs : (p.f 1).es.length ≤ 16777215) :
    replaced_ N p (.int (i : Int)) c = some (.st [.int (p.f 0).n, .sl false (put (p.f 1).es i c), .int (p.f 2).n, .sl (p.f 3).nl (p.f 3).es, .bool (p.f 4).b, .sl (p.f 5).nl (p.f 5).es]) := by
  unfold replaced_ replaced
  rw [hn, cnd_f, nadd_c, len_c, room_in (by omega) (by omega), cnd_t, n_int, inb_t hi, cnd_t, tn_c]

theorem cat_is (hN : 16777217 ≤ N) (z : Bool) (x y : D) (hx : x.es.length ≤ 16777215) (hy : y.es.length ≤ 16777215) : ∃ b, ConcatT_ N (.sl z [x, y]) = some (.sl b (x.es ++ y.es)) := by
  have e : ConcatT_ N (.sl z [x, y]) = ConcatT_p N z x y := rfl
  rw [e]
  unfold ConcatT_p
  simp only [len_c, ilen_c]
  rw [iadd_in (x := 0) (by omega), iadd_in (by omega), isub_in (by omega), ilt_no (by omega), cnd_f, ilt_no (by omega), cnd_f, cnd_f]
  by_cases h : (0 : Int) < 0 + (x.es.length : Int) + y.es.length - 0
  · rw [ilt_in h, cnd_t, cnd_t, room_in (by unfold tn; omega) (by unfold tn; omega), cnd_t, inc_in (by omega), cnd_t, nadd_c, nadd_c, room_in (by omega) (by omega), cnd_t, room_in (by omega) (by omega), cnd_t]
    refine ⟨false, ?_⟩
    congr 2
    simp [cut, app, List.take_append]
    exact List.take_of_length_le (by omega)
  · have h1 : x.es = [] := List.eq_nil_of_length_eq_zero (by omega)
    have h2 : y.es = [] := List.eq_nil_of_length_eq_zero (by omega)
    rw [ilt_no h, cnd_f, h1, h2]
    exact ⟨_, rfl⟩
end Go.Ev.S

namespace Go.Ev.S
open Go Go.Ev
set_option linter.unusedVariables false
variable {N : Nat}

theorem turn_not (hN : 16777217 ≤ N) {a p : D} (h : (p.f 0).n ≠ 4) : turn_ N a p = some (.st [p, .bool false]) := by
  unfold turn_ turn
  rw [step_is (by omega) p false [.int 4] (by decide), obind_s]
  have : ([D.int 4].any fun d => decide ((p.f 0).n = d.n)) = false := by simp [n_int, h]
  rw [this]; rfl
theorem turn_is (hN : 16777217 ≤ N) {a f0 x y f2 f3 f4 f5 : D} (h : f0.n = 4) :
    turn_ N a (.st [f0, .sl false [x, y], f2, f3, f4, f5]) = some (.st [.st [.int 4, .sl false [y, x], .int f2.n, .sl f3.nl f3.es, .bool f4.b, .sl f5.nl f5.es], .bool true]) := by
  unfold turn_ turn
  rw [step_is (by omega) _ false [.int 4] (by decide), obind_s]
  have : ([D.int 4].any fun d => decide (((D.st [f0, .sl false [x, y], f2, f3, f4, f5]).f 0).n = d.n)) = true := by
    have e : ((D.st [f0, .sl false [x, y], f2, f3, f4, f5]).f 0).n = 4 := h
    simp [n_int, e]
  rw [this]
  refine (cnd_f _ _).trans ?_
  refine (cnd_t _ _).trans ?_
  rw [show D.int 0 = D.int ((0 : Nat) : Int) from rfl, show D.int 1 = D.int ((1 : Nat) : Int) from rfl]
  rw [replaced_is (p := .st [f0, .sl false [x, y], f2, f3, f4, f5]) rfl (show 0 < 2 by decide) (show 2 ≤ 16777215 by decide), obind_s]
  refine (cnd_t _ _).trans ?_
  show obind (replaced_ N (.st [.int f0.n, .sl false (put [x, y] 0 y), .int f2.n, .sl f3.nl f3.es, .bool f4.b, .sl f5.nl f5.es]) (.int ((1 : Nat) : Int)) x) _ = _
  rw [replaced_is (p := .st [.int f0.n, .sl false (put [x, y] 0 y), .int f2.n, .sl f3.nl f3.es, .bool f4.b, .sl f5.nl f5.es]) rfl (show 1 < 2 by decide) (show 2 ≤ 16777215 by decide), obind_s]
  rw [show (D.f (D.st [D.int f0.n, D.sl false (put [x, y] 0 y), D.int f2.n, D.sl f3.nl f3.es, D.bool f4.b, D.sl f5.nl f5.es]) 0).n = 4 from h]
  rfl

theorem split_is (hN : 16777217 ≤ N) {a p : D} (hs : sz p ≤ 16777215) {x : D} (hx : (p.f 1).es = [x]) :
    (¬ ((p.f 0).n = 6 ∧ (p.f 5).es.all (sure N) = true ∧ 2 ≤ (p.f 5).es.length) ∧ split_ N a p = some (.st [p, .bool false])) ∨
    (((p.f 0).n = 6 ∧ (p.f 5).es.all (sure N) = true) ∧ ∃ t r, (p.f 5).es = t :: r ∧ split_ N a p = some (.st [.st [.int 6, .sl false [.st [.int 6, .sl false [x], .int 0, .sl true [], .bool false, .sl (p.f 5).nl r]], .int 0, .sl true [], .bool false, .sl false [t]], .bool true])) := by
  unfold split_ split
  rw [safe_is hN p hs, obind_s, b_bool]
  cases h6 : ieq (p.f 0).n 6 with
  | false => exact .inl ⟨fun h => ieq_not h6 h.1, rfl⟩
  | true =>
    cases hall : (p.f 5).es.all (sure N) with
    | false => exact .inl ⟨fun h => (by cases h.2.1), rfl⟩
    | true =>
      cases hl : ilt (ilen (len (p.f 5).es)) 2 with
      | true =>
        refine .inl ⟨fun h => ?_, rfl⟩
        have := ilt_is hl
        unfold ilen len at this
        omega
      | false =>
        have hl := ilt_not hl
        unfold ilen len at hl
        right
        refine ⟨⟨ieq_is h6, rfl⟩, ?_⟩
        cases ht : (p.f 5).es with
        | nil => rw [ht] at hl; simp at hl
        | cons t r =>
          refine ⟨t, r, rfl, ?_⟩
          rw [hx]
          refine (obind_s _ _).trans ?_
          refine (cnd_f _ _).trans ?_
          refine (cnd_t _ _).trans ?_
          rw [inc_in (by unfold ilen len; simp only [List.length_cons]; omega), cnd_t]
          have e : cut (t :: r) 1 (nsub (len (t :: r)) 1) = r := by simp [cut, nsub, len]
          unfold filter_ filter
          rw [e, inb_in (i := 0) (by unfold len; simp only [List.length_cons]; omega)]
          rfl

theorem all_false {l : List D} {g : D → Bool} (h : l.all g = false) : ¬ l.all g = true := by rw [h]; exact fun h => by cases h

/-- Merge, of plans that bind. -/
theorem merge_is (hN : 16777217 ≤ N) {c a : D} (P : Pat c) {p : D} (hp : Pl p) (hs : sz p ≤ 8388607) (hb : (bd N c p).nl = false) :
    (¬ (((p.f 0).n = 6 ∧ (p.f 5).es.all (sure N) = true) ∧ ∃ x, (p.f 1).es = [x] ∧ (x.f 0).n = 6 ∧ (x.f 5).es.all (sure N) = true) ∧ merge_ N a p = some (.st [p, .bool false])) ∨
    (∃ x y z, (p.f 1).es = [x] ∧ (x.f 1).es = [y] ∧ (p.f 0).n = 6 ∧ (x.f 0).n = 6 ∧ merge_ N a p = some (.st [.st [.int 6, .sl false [y], .int 0, .sl true [], .bool false, .sl z ((p.f 5).es ++ (x.f 5).es)], .bool true])) := by
  unfold merge_ merge
  rw [safe_is hN p (by omega), obind_s, b_bool]
  cases h6 : ieq (p.f 0).n 6 with
  | false => exact .inl ⟨fun h => ieq_not h6 h.1.1, rfl⟩
  | true =>
    cases hall : (p.f 5).es.all (sure N) with
    | false => exact .inl ⟨fun h => (by cases h.1.2), rfl⟩
    | true =>
      have q6 := ieq_is h6
      have hp' := hp
      obtain ⟨hn, hks⟩ := hp
      rename_i f0 f2 f3 f4 f5 nl ks
      rcases bd_kids hN P hp' (by omega) hb with ⟨h, _⟩ | ⟨_, x, rfl, hx⟩ | ⟨h, _⟩
      · have q6 : f0.n = 6 := q6
        omega
      · have hsx := sz_sub (f0 := f0) (f2 := f2) (f3 := f3) (f4 := f4) (f5 := f5) (nl := nl) (List.mem_singleton.2 rfl : x ∈ [x])
        have hpx := hks x (List.mem_singleton.2 rfl)
        have e1 : ((D.st [f0, D.sl nl [x], f2, f3, f4, f5]).f 1).es = [x] := rfl
        rw [e1]
        have ea : at_ [x] 0 = x := rfl
        rw [ea, show inb 0 (len [x]) = true from rfl, safe_is hN x (by omega)]
        cases h6x : ieq (x.f 0).n 6 with
        | false => exact .inl ⟨fun ⟨_, x', e, h, _⟩ => (by cases e; exact ieq_not h6x h), rfl⟩
        | true =>
          cases hallx : (x.f 5).es.all (sure N) with
          | false => exact .inl ⟨fun ⟨_, x', e, _, h⟩ => (by cases e; rw [hallx] at h; cases h), rfl⟩
          | true =>
            have q6x := ieq_is h6x
            right
            have hpx' := hpx
            obtain ⟨hnx, hksx⟩ := hpx
            rename_i g0 g2 g3 g4 g5 nlx ksx
            rcases bd_kids hN P hpx' (by omega) hx with ⟨h, _⟩ | ⟨_, y, rfl, hy⟩ | ⟨h, _⟩
            · have q6x : g0.n = 6 := q6x
              omega
            · have l1 := len_kids (D.st [f0, D.sl nl [D.st [g0, .sl nlx [y], g2, g3, g4, g5]], f2, f3, f4, f5]) 5
              have l2 := len_kids (D.st [g0, .sl nlx [y], g2, g3, g4, g5]) 5
              obtain ⟨z, hz⟩ := cat_is hN false (.sl ((D.st [f0, D.sl nl [D.st [g0, .sl nlx [y], g2, g3, g4, g5]], f2, f3, f4, f5]).f 5).nl ((D.st [f0, D.sl nl [D.st [g0, .sl nlx [y], g2, g3, g4, g5]], f2, f3, f4, f5]).f 5).es) (.sl ((D.st [g0, .sl nlx [y], g2, g3, g4, g5]).f 5).nl ((D.st [g0, .sl nlx [y], g2, g3, g4, g5]).f 5).es) (by rw [es_sl]; omega) (by rw [es_sl]; omega)
              refine ⟨_, y, z, rfl, rfl, q6, q6x, ?_⟩
              refine (obind_s _ _).trans ?_
              refine (cnd_f _ _).trans ?_
              refine (cnd_t _ _).trans ?_
              refine (cnd_t _ _).trans ?_
              rw [hz, obind_s]
              rfl
            · have q6x : g0.n = 6 := q6x
              omega
      · have q6 : f0.n = 6 := q6
        omega
end Go.Ev.S

namespace Go.Ev.S
open Go Go.Ev
set_option linter.unusedVariables false
variable {N : Nat}

theorem st_0 (x y : D) : (D.st [x, y]).f 0 = x := rfl
theorem st_1 (x y : D) : (D.st [x, y]).f 1 = y := rfl
theorem split_not (hN : 16777217 ≤ N) {a p : D} (hs : sz p ≤ 16777215) (h : (p.f 0).n ≠ 6) : split_ N a p = some (.st [p, .bool false]) := by
  unfold split_ split
  rw [safe_is hN p hs, obind_s, b_bool, ieq_no h]
  rfl

/-- Turned, and turned back. -/
theorem turned (hN : 16777217 ≤ N) {p c : D} (hp : Pl p) (hs : sz p ≤ 1048576) :
    ∃ x y f g, Apply_ N (.int 5) p c = some (.st [x, .bool f]) ∧ Apply_ N (.int 5) x c = some (.st [y, .bool g]) ∧ ((f = true ∧ g = true ∧ Eqv p y) ∨ (f = false ∧ x = p ∧ y = p)) := by
  have no : Apply_ N (.int 5) p c = some (.st [p, .bool false]) → ∃ x y f g, Apply_ N (.int 5) p c = some (.st [x, .bool f]) ∧ Apply_ N (.int 5) x c = some (.st [y, .bool g]) ∧ ((f = true ∧ g = true ∧ Eqv p y) ∨ (f = false ∧ x = p ∧ y = p)) :=
    fun h => ⟨p, p, false, false, h, h, .inr ⟨rfl, rfl, rfl⟩⟩
  by_cases hF : Fits N c p
  · have hA := Apply_5 hN hp (by omega) hF
    by_cases h4 : (p.f 0).n = 4
    · have P := hF.pat hN
      have hp' := hp
      obtain ⟨hn, hks⟩ := hp
      rename_i f0 f2 f3 f4 f5 nl ks
      have h4' : f0.n = 4 := h4
      rcases bd_kids hN P hp' (by omega) hF.2 with ⟨h, _⟩ | ⟨h, _⟩ | ⟨_, x, y, rfl, hx, hy⟩
      · omega
      · omega
      · have hnl : nl = false := by
          cases nl with
          | false => rfl
          | true => have := hn rfl; cases this
        subst hnl
        have sx := sz_sub (f0 := f0) (f2 := f2) (f3 := f3) (f4 := f4) (f5 := f5) (nl := false) (by simp : x ∈ [x, y])
        have sy := sz_sub (f0 := f0) (f2 := f2) (f3 := f3) (f4 := f4) (f5 := f5) (nl := false) (by simp : y ∈ [x, y])
        have s3 := sz_kids (.st [f0, .sl false [x, y], f2, f3, f4, f5]) 3
        have s5 := sz_kids (.st [f0, .sl false [x, y], f2, f3, f4, f5]) 5
        have s3 : szL f3.es + 1 ≤ sz (.st [f0, .sl false [x, y], f2, f3, f4, f5]) := s3
        have s5 : szL f5.es + 1 ≤ sz (.st [f0, .sl false [x, y], f2, f3, f4, f5]) := s5
        rw [turn_is hN h4', obind_s, st_0, st_1, b_bool] at hA
        have hq : Pl (.st [.int 4, .sl false [y, x], .int f2.n, .sl f3.nl f3.es, .bool f4.b, .sl f5.nl f5.es]) := .mk (fun h => by cases h) (fun k hk => hks k (by simp at hk ⊢; exact hk.symm))
        have hsq : sz (.st [.int 4, .sl false [y, x], .int f2.n, .sl f3.nl f3.es, .bool f4.b, .sl f5.nl f5.es]) ≤ 16777215 := by
          simp only [sz, szL] at *; omega
        have hj := (bd_join hN P hp' (by omega) h4').1 hF.2
        have dx := (bd_is hN P (hks x (by simp)) (by omega) (k := sz x + 1) (by omega)).2
        have dy := (bd_is hN P (hks y (by simp)) (by omega) (k := sz y + 1) (by omega)).2
        have hlen : (bd N c x).es.length = (bd N c y).es.length := by
          rcases dx with e | ⟨b, e, hb⟩
          · rw [e] at hx; cases hx
          · rcases dy with e' | ⟨b', e', hb'⟩
            · rw [e'] at hy; cases hy
            · rw [e, e']; show b.length = b'.length; omega
        have hFq : Fits N c (.st [.int 4, .sl false [y, x], .int f2.n, .sl f3.nl f3.es, .bool f4.b, .sl f5.nl f5.es]) :=
          ⟨hF.1, (bd_join hN P hq hsq rfl).2 ⟨hj.2.1, hj.1, apart_symm hlen hj.2.2⟩⟩
        have hB := Apply_5 hN hq hsq hFq
        rw [turn_is hN (show (D.int 4).n = 4 from rfl), obind_s, st_0, st_1, b_bool] at hB
        exact ⟨_, _, true, true, hA, hB, .inl ⟨rfl, rfl, ⟨h4', rfl, rfl, rfl, rfl, rfl⟩⟩⟩
    · rw [turn_not hN h4] at hA
      exact no hA
  · exact no (Apply_not hN hp (by omega) hF _)

/-- Split, and merged again. -/
theorem splitted (hN : 16777217 ≤ N) {p c : D} (hp : Pl p) (hs : sz p ≤ 1048576) :
    ∃ x y f g, Apply_ N (.int 1) p c = some (.st [x, .bool f]) ∧ Apply_ N (.int 2) x c = some (.st [y, .bool g]) ∧ ((f = true ∧ g = true ∧ sz y ≤ 4194304 ∧ ((p.f 2).n = 0 → (p.f 3).es = [] → (p.f 4).b = false → Eqv y p)) ∨ (f = false ∧ x = p)) := by
  have no : Apply_ N (.int 1) p c = some (.st [p, .bool false]) → ∃ x y f g, Apply_ N (.int 1) p c = some (.st [x, .bool f]) ∧ Apply_ N (.int 2) x c = some (.st [y, .bool g]) ∧ ((f = true ∧ g = true ∧ sz y ≤ 4194304 ∧ ((p.f 2).n = 0 → (p.f 3).es = [] → (p.f 4).b = false → Eqv y p)) ∨ (f = false ∧ x = p)) := fun h => by
    have : ∃ y g, Apply_ N (.int 2) p c = some (.st [y, .bool g]) := by
      by_cases hF : Fits N c p
      · have hA := Apply_2 hN hp (by omega) hF
        rcases merge_is hN (a := .st [c]) (hF.pat hN) hp (by omega) hF.2 with ⟨_, g⟩ | ⟨x, y, z, _, _, _, _, g⟩
        · rw [g] at hA; exact ⟨_, _, hA⟩
        · rw [g] at hA; exact ⟨_, _, hA⟩
      · exact ⟨_, _, Apply_not hN hp (by omega) hF _⟩
    obtain ⟨y, g, hy⟩ := this
    exact ⟨p, y, false, g, h, hy, .inr ⟨rfl, rfl⟩⟩
  by_cases hF : Fits N c p
  · have hA := Apply_1 hN hp (by omega) hF
    by_cases h6 : (p.f 0).n = 6
    · have P := hF.pat hN
      have hp' := hp
      obtain ⟨hn, hks⟩ := hp
      rename_i f0 f2 f3 f4 f5 nl ks
      have h6' : f0.n = 6 := h6
      rcases bd_kids hN P hp' (by omega) hF.2 with ⟨h, _⟩ | ⟨_, x, rfl, hx⟩ | ⟨h, _⟩
      · omega
      · rcases split_is hN (a := .st [c]) (p := .st [f0, .sl nl [x], f2, f3, f4, f5]) (by omega) (x := x) rfl with ⟨_, g⟩ | ⟨⟨_, hall⟩, t, r, htr, g⟩
        · rw [g] at hA; exact no hA
        · rw [g, obind_s, st_0, st_1, b_bool] at hA
          have htr : f5.es = t :: r := htr
          have hall : f5.es.all (sure N) = true := hall
          rw [htr, List.all_cons, Bool.and_eq_true] at hall
          have sx := sz_sub (f0 := f0) (f2 := f2) (f3 := f3) (f4 := f4) (f5 := f5) (nl := nl) (List.mem_singleton.2 rfl : x ∈ [x])
          have s5 : szL f5.es + 1 ≤ sz (.st [f0, .sl nl [x], f2, f3, f4, f5]) := sz_kids (.st [f0, .sl nl [x], f2, f3, f4, f5]) 5
          rw [htr] at s5
          simp only [szL] at s5
          have hi : Pl (.st [.int 6, .sl false [x], .int 0, .sl true [], .bool false, .sl f5.nl r]) := .mk (fun h => by cases h) (fun k hk => hks k hk)
          have hq : Pl (.st [.int 6, .sl false [.st [.int 6, .sl false [x], .int 0, .sl true [], .bool false, .sl f5.nl r]], .int 0, .sl true [], .bool false, .sl false [t]]) := .mk (fun h => by cases h) (fun k hk => by rw [List.mem_singleton.1 hk]; exact hi)
          have hsi : sz (.st [.int 6, .sl false [x], .int 0, .sl true [], .bool false, .sl f5.nl r]) ≤ 4194320 := by simp only [sz, szL] at *; omega
          have hsq : sz (.st [.int 6, .sl false [.st [.int 6, .sl false [x], .int 0, .sl true [], .bool false, .sl f5.nl r]], .int 0, .sl true [], .bool false, .sl false [t]]) ≤ 8388607 := by simp only [sz, szL] at *; omega
          have b1 := bd_filter hN P hp' (by omega) h6'
          have hbind : (bd N c x).nl = false ∧ f5.es.all (bnds N (bd N c x).es) = true := by
            by_cases h : (bd N c x).nl = false ∧ f5.es.all (bnds N (bd N c x).es) = true
            · exact h
            · rw [if_neg h] at b1
              have := hF.2
              rw [b1] at this; cases this
          have ha := hbind.2
          rw [htr, List.all_cons, Bool.and_eq_true] at ha
          have b2 := bd_filter hN P hi (by omega) rfl
          rw [if_pos ⟨hbind.1, by rw [es_sl]; exact ha.2⟩] at b2
          have b3 := bd_filter hN P hq (by omega) rfl
          rw [b2, if_pos ⟨hbind.1, by rw [es_sl, List.all_cons, Bool.and_eq_true]; exact ⟨ha.1, rfl⟩⟩] at b3
          have hFq : Fits N c (.st [.int 6, .sl false [.st [.int 6, .sl false [x], .int 0, .sl true [], .bool false, .sl f5.nl r]], .int 0, .sl true [], .bool false, .sl false [t]]) := ⟨hF.1, by rw [b3]; exact hbind.1⟩
          have hB := Apply_2 hN hq (by omega) hFq
          rcases merge_is hN (a := .st [c]) P hq hsq hFq.2 with ⟨h, _⟩ | ⟨x', y', z, e1, e2, _, _, g⟩
          · exact absurd ⟨⟨rfl, by show [t].all (sure N) = true; rw [List.all_cons, Bool.and_eq_true]; exact ⟨hall.1, rfl⟩⟩, _, rfl, rfl, hall.2⟩ h
          · have e1 : [(.st [.int 6, .sl false [x], .int 0, .sl true [], .bool false, .sl f5.nl r] : D)] = [x'] := e1
            cases e1
            have e2 : [x] = [y'] := e2
            cases e2
            rw [g, obind_s, st_0, st_1, b_bool] at hB
            refine ⟨_, _, true, true, hA, hB, .inl ⟨rfl, rfl, ?_, fun z1 z2 z3 => ⟨h6.symm, rfl, z1.symm, z2.symm, z3.symm, htr.symm⟩⟩⟩
            show sz (.st [.int 6, .sl false [x], .int 0, .sl true [], .bool false, .sl z ([t] ++ r)]) ≤ _
            simp only [sz, szL, List.cons_append, List.nil_append] at *
            omega
      · omega
    · rw [split_not hN (by omega) h6] at hA
      exact no hA
  · exact no (Apply_not hN hp (by omega) hF _)

end Go.Ev.S

namespace Go.Ev.S
open Go Go.Ev
set_option linter.unusedVariables false
variable {N : Nat}

theorem Pl.kids {p : D} (hp : Pl p) : ∀ k ∈ (p.f 1).es, Pl k := by
  obtain ⟨_, h⟩ := hp; exact h
theorem Pl.nilK {p : D} (hp : Pl p) (h : (p.f 1).nl = true) : (p.f 1).es = [] := by
  obtain ⟨hn, _⟩ := hp; exact hn h
theorem Pl.size {p : D} (hp : Pl p) : szL (p.f 1).es + szL (p.f 3).es + szL (p.f 5).es + 7 ≤ sz p := by
  obtain ⟨_, _⟩ := hp
  rename_i f0 f2 f3 f4 f5 nl ks _ _
  have h0 := sz_pos f0
  have h2 := sz_pos f2
  have h4 := sz_pos f4
  have h3 := szL_es f3
  have h5 := szL_es f5
  show szL ks + szL f3.es + szL f5.es + 7 ≤ sz (.st [f0, .sl nl ks, f2, f3, f4, f5])
  simp only [sz, szL]
  omega
theorem size_of (o s : Int) (z z3 z5 q : Bool) (ks E T : List D) : sz (.st [.int o, .sl z ks, .int s, .sl z3 E, .bool q, .sl z5 T]) = szL ks + szL E + szL T + 7 := by
  simp only [sz, szL]; omega
theorem Pl.make {o s : Int} {z z3 z5 q : Bool} {ks E T : List D} (hz : z = true → ks = []) (h : ∀ k ∈ ks, Pl k) : Pl (.st [.int o, .sl z ks, .int s, .sl z3 E, .bool q, .sl z5 T]) := .mk hz h

theorem nl_of_cons {p x : D} {l : List D} (hp : Pl p) (h : (p.f 1).es = x :: l) : (p.f 1).nl = false := by
  cases hn : (p.f 1).nl with
  | false => rfl
  | true => have := hp.nilK hn; rw [h] at this; cases this

theorem bd_one (hN : 16777217 ≤ N) {c p : D} (P : Pat c) (hp : Pl p) (hs : sz p ≤ 16777215) (hb : (bd N c p).nl = false) (ho : (p.f 0).n = 2 ∨ (p.f 0).n = 3 ∨ (p.f 0).n = 5 ∨ (p.f 0).n = 6) :
    ∃ x, (p.f 1).es = [x] ∧ Pl x ∧ sz x < sz p ∧ (bd N c x).nl = false ∧ (p.f 1).nl = false := by
  have hp' := hp
  obtain ⟨hn, hks⟩ := hp
  rename_i f0 f2 f3 f4 f5 nl ks
  have ho : f0.n = 2 ∨ f0.n = 3 ∨ f0.n = 5 ∨ f0.n = 6 := ho
  rcases bd_kids hN P hp' hs hb with ⟨h, _⟩ | ⟨_, x, rfl, hx⟩ | ⟨h, _⟩
  · omega
  · exact ⟨x, rfl, hks x (List.mem_singleton.2 rfl), sz_sub (List.mem_singleton.2 rfl), hx, nl_of_cons hp' rfl⟩
  · omega
theorem bd_two (hN : 16777217 ≤ N) {c p : D} (P : Pat c) (hp : Pl p) (hs : sz p ≤ 16777215) (hb : (bd N c p).nl = false) (ho : (p.f 0).n = 4) :
    ∃ x y, (p.f 1).es = [x, y] ∧ Pl x ∧ Pl y ∧ sz x < sz p ∧ sz y < sz p ∧ (bd N c x).nl = false ∧ (bd N c y).nl = false := by
  have hp' := hp
  obtain ⟨hn, hks⟩ := hp
  rename_i f0 f2 f3 f4 f5 nl ks
  have ho : f0.n = 4 := ho
  rcases bd_kids hN P hp' hs hb with ⟨h, _⟩ | ⟨h, _⟩ | ⟨_, x, y, rfl, hx, hy⟩
  · omega
  · omega
  · exact ⟨x, y, rfl, hks x (by simp), hks y (by simp), sz_sub (by simp), sz_sub (by simp), hx, hy⟩
theorem bd_edges (hN : 16777217 ≤ N) {c p : D} (P : Pat c) (hp : Pl p) (hs : sz p ≤ 16777215) (hb : (bd N c p).nl = false) :
    ((p.f 0).n = 5 → ∀ j, j < (p.f 3).es.length → 0 ≤ (at_ (p.f 3).es j).n ∧ (at_ (p.f 3).es j).n < (c.f 1).es.length) ∧
      ((p.f 0).n = 2 ∨ (p.f 0).n = 3 → (p.f 3).es.length = 1 ∧ 0 ≤ (at_ (p.f 3).es 0).n ∧ (at_ (p.f 3).es 0).n < (c.f 1).es.length) := by
  have main : ((p.f 0).n = 2 ∨ (p.f 0).n = 3 ∨ (p.f 0).n = 5) → ∃ X r, kid1 (binds_ N) (edge_ N) (meetB_ N) N (ctx c) p X = some r ∧ Fine c X ∧ r.nl = false := fun ho => by
    obtain ⟨x, hx, px, sx, bx, hnl⟩ := bd_one hN P hp hs hb (by omega)
    obtain ⟨hn, hks⟩ := hp
    rename_i f0 f2 f3 f4 f5 nl ks
    have hx : ks = [x] := hx
    subst hx
    have hp : Pl (.st [f0, .sl nl [x], f2, f3, f4, f5]) := .mk hn hks
    have ho : f0.n = 2 ∨ f0.n = 3 ∨ f0.n = 5 := ho
    have h1 := bd_is hN P hp hs (k := sz (.st [f0, .sl nl [x], f2, f3, f4, f5]) + 1) (by omega)
    have hd := bd_is hN P px (by omega) sx
    rcases bound1_is (Gb := binds_ N) (X := bound_ N (sz (.st [f0, .sl nl [x], f2, f3, f4, f5]))) (Ge := edge_ N) (Gm := meetB_ N) (N := N) P f0 x f2 f3 f4 f5 nl with ⟨h, g⟩ | ⟨h, g⟩
    · omega
    · rw [hd.1, obind_s] at g
      exact ⟨_, _, g.symm.trans h1.1, hd.2, hb⟩
  refine ⟨fun h => ?_, fun h => ?_⟩
  · obtain ⟨X, r, h1, h2, h3⟩ := main (by omega)
    obtain ⟨r', e, _, _, e2, _⟩ := kid1_is hN P p hs h2
    rw [h1] at e; cases e
    exact e2 h h3
  · obtain ⟨X, r, h1, h2, h3⟩ := main (by omega)
    obtain ⟨r', e, _, _, _, e2⟩ := kid1_is hN P p hs h2
    rw [h1] at e; cases e
    exact e2 (by omega) (by omega) h3

theorem slots_l0_is {z : Bool} {l : List D} {k : List D → Option D} (hll : l.length ≤ 16777216) {G : D → Option D} (hG : ∀ x ∈ l, ∃ d, G x = some d ∧ d.es.length ≤ sz x) : ∀ (n i : Nat) (o : List D), i ≤ l.length → l.length - i < n → o.length + szL (l.drop i) ≤ 16777216 →
    ∃ o' : List D, o'.length ≤ o.length + szL (l.drop i) ∧ slots_l0 G N n z l (ilen (len l)) (i : Int) o k = k o'
  | 0, i, o, _, h, _ => by omega
  | n + 1, i, o, hi, h, hs => by
    by_cases e : i = l.length
    · subst e
      exact ⟨o, by omega, by simp only [slots_l0, len_c, ilt_f, cnd_f]⟩
    · have hlt : i < l.length := by omega
      obtain ⟨d, h1, h2⟩ := hG _ (at_mem hlt)
      have e1 := szL_drop hlt
      have hl := szL_len (l.drop i)
      rw [List.length_drop] at hl
      obtain ⟨o', g1, g2⟩ := slots_l0_is hll hG n (i + 1) (o ++ d.es) (by omega) (by omega) (by rw [List.length_append]; omega)
      rw [List.length_append] at g1
      refine ⟨o', by omega, ?_⟩
      simp only [slots_l0, len_c, ilt_t hlt, cnd_t, inb_t hlt, tn_c, h1, obind_s, nadd_c]
      rw [room_in (by omega) (by omega), cnd_t, iadd_1 (by omega), app_c]
      exact g2
theorem slots_is (hN : 16777217 ≤ N) (a : D) (h : szL a.es ≤ 16777215) : ∃ d, slots_ N a = some d ∧ d.es.length ≤ 16777215 := by
  have hl := szL_len a.es
  obtain ⟨o, h1, h2⟩ := slots_l0_is (N := N) (z := a.nl) (l := a.es) (k := fun (o1' : List D) => some (D.sl (empty o1') o1')) (by omega) (G := Slots_ N N) (fun x hx => Slots_is hN N x (by have := szL_mem hx; omega) (by have := szL_mem hx; omega)) N 0 [] (Nat.zero_le _) (by omega) (by simp only [List.length_nil, List.drop_zero]; omega)
  simp only [List.length_nil, List.drop_zero] at h1
  exact ⟨_, h2, by rw [es_sl]; omega⟩

theorem knows_is (hN : 16777217 ≤ N) {c p : D} (hp : Pl p) (hs : sz p ≤ 16777215) (s : D) (hl : s.es.length ≤ 16777215) : ∃ v, knows_ N (.st [c]) p s = some (.bool v) := by
  unfold knows_ knows
  rw [show (D.st [c]).f 0 = c from rfl]
  rcases Bound_is hN (c := c) hp hs with ⟨_, h⟩ | ⟨_, e, he, h⟩
  · rw [h, obind_s, st_0, st_1, n_int, ieq_in rfl, cnd_t, nl_sl, es_sl]
    generalize (bd N c p).es = b
    rcases any_loop (fun n i => knows_l0 (Bound_ N) N n s.nl s.es (ilen (len s.es)) i (D.st [c]) p false b (fun (t4' : Int) => some (D.bool (bno (ile 0 t4')))) (some (D.bool true))) s.es.length
      (fun i => cnd (ilt (D.n (at_ s.es i)) 0) (some true) (cnd (ile (ilen (len b)) (D.n (at_ s.es i))) (some true) (cnd (inb (D.n (at_ s.es i)) (len b)) (some (bno (D.b (at_ b (tn (D.n (at_ s.es i))))))) none)))
      (fun (t4' : Int) => some (D.bool (bno (ile 0 t4')))) (some (D.bool true))
      (fun n i hi => by simp only [knows_l0, len_c, ilt_t hi, cnd_t, inb_t hi, tn_c, iadd_1 (show i < 2 ^ 62 by omega)])
      (fun n => by simp only [knows_l0, len_c, ilt_f, cnd_f])
      (fun i hi => by
        cases h1 : ilt (D.n (at_ s.es i)) 0 with
        | true => exact ⟨_, rfl⟩
        | false =>
          rw [cnd_f]
          cases h2 : ile (ilen (len b)) (D.n (at_ s.es i)) with
          | true => exact ⟨_, rfl⟩
          | false =>
            have := ilt_not h1
            have := ile_not h2
            rw [cnd_f, inb_in (by unfold ilen len at *; omega), cnd_t]
            exact ⟨_, rfl⟩) N 0 (Nat.zero_le _) (by omega) with ⟨_, g⟩ | ⟨j, _, _, _, g⟩
    · exact ⟨_, g⟩
    · exact ⟨_, g⟩
  · rw [h, obind_s, st_1, n_int, ieq_no he, cnd_f]
    exact ⟨_, rfl⟩

theorem touches_is (hN : 16777217 ≤ N) {c p : D} (hp : Pl p) (hs : sz p ≤ 16777215) {e : Int} (he : 0 ≤ e ∧ e < (c.f 1).es.length) (s : Int) : ∃ v, touches_ N (.st [c]) p (.int e) (.int s) = some (.bool v) := by
  unfold touches_ touches
  rw [show (D.st [c]).f 0 = c from rfl]
  simp only [n_int]
  rw [inb_in (by unfold len; omega), cnd_t]
  obtain ⟨v1, h1⟩ := knows_is hN (c := c) hp hs (D.sl false [D.int (D.n (D.f (at_ (c.f 1).es (tn e)) 2))]) (by rw [es_sl]; exact (by decide : 1 ≤ 16777215))
  obtain ⟨v2, h2⟩ := knows_is hN (c := c) hp hs (D.sl false [D.int (D.n (D.f (at_ (c.f 1).es (tn e)) 3))]) (by rw [es_sl]; exact (by decide : 1 ≤ 16777215))
  rw [h1, h2]
  cases ieq s (D.n (D.f (at_ (c.f 1).es (tn e)) 3)) with
  | true =>
    cases bno (ieq (D.n (D.f (at_ (c.f 1).es (tn e)) 2)) s) with
    | true => exact ⟨_, rfl⟩
    | false => exact ⟨_, rfl⟩
  | false =>
    cases ieq s (D.n (D.f (at_ (c.f 1).es (tn e)) 2)) with
    | true => exact ⟨_, rfl⟩
    | false => exact ⟨_, rfl⟩

theorem catI_is (hN : 16777217 ≤ N) (z : Bool) (x y : D) (hx : x.es.length ≤ 16777215) (hy : y.es.length ≤ 16777215) : ∃ b, ConcatI_ N (.sl z [x, y]) = some (.sl b (x.es ++ y.es)) := by
  have e : ConcatI_ N (.sl z [x, y]) = ConcatI_p N z x y := rfl
  rw [e]
  unfold ConcatI_p
  simp only [len_c, ilen_c]
  rw [iadd_in (x := 0) (by omega), iadd_in (by omega), isub_in (by omega), ilt_no (by omega), cnd_f, ilt_no (by omega), cnd_f, cnd_f]
  by_cases h : (0 : Int) < 0 + (x.es.length : Int) + y.es.length - 0
  · rw [ilt_in h, cnd_t, cnd_t, room_in (by unfold tn; omega) (by unfold tn; omega), cnd_t, inc_in (by omega), cnd_t, nadd_c, nadd_c, room_in (by omega) (by omega), cnd_t, room_in (by omega) (by omega), cnd_t]
    refine ⟨false, ?_⟩
    congr 2
    simp [cut, app, List.take_append]
    exact List.take_of_length_le (by omega)
  · have h1 : x.es = [] := List.eq_nil_of_length_eq_zero (by omega)
    have h2 : y.es = [] := List.eq_nil_of_length_eq_zero (by omega)
    rw [ilt_no h, cnd_f, h1, h2]
    exact ⟨_, rfl⟩
theorem clone_is (x : D) (hx : x.es.length ≤ 16777215) : ∃ b l, CloneI_ N x = some (.sl b l) ∧ szL l ≤ szL x.es := by
  unfold CloneI_ CloneI
  cases x.nl with
  | true => exact ⟨_, _, rfl, by simp [szL]⟩
  | false =>
    rw [cnd_f, nadd_c, len_c, room_in (by omega) (by omega)]
    exact ⟨_, _, rfl, Nat.le_refl _⟩

theorem put_size {l : List D} {i : Nat} {c : D} (h : i < l.length) : szL (put l i c) + sz (at_ l i) = szL l + sz c := by
  induction l generalizing i with
  | nil => simp at h
  | cons a l ih =>
    cases i with
    | zero => simp only [put, List.set_cons_zero, szL, at_, List.getD_cons_zero]; omega
    | succ i =>
      have := ih (i := i) (by simpa using h)
      simp only [put, at_, List.set_cons_succ, szL, List.getD_cons_succ] at *
      omega
theorem put_mem {l : List D} {i : Nat} {c k : D} (h : k ∈ put l i c) : k ∈ l ∨ k = c := List.mem_or_eq_of_mem_set h
theorem replaced_good {p c : D} {i : Nat} (hp : Pl p) (hi : i < (p.f 1).es.length) (hs : sz p ≤ 16777215) (hc : Pl c) :
    ∃ q, replaced_ N p (.int (i : Int)) c = some q ∧ Pl q ∧ sz q + sz (at_ (p.f 1).es i) ≤ sz p + sz c := by
  have hl := len_kids p 1
  have hnl : (p.f 1).nl = false := by
    cases hn : (p.f 1).nl with
    | false => rfl
    | true => rw [hp.nilK hn] at hi; simp at hi
  refine ⟨_, replaced_is hnl hi (by omega), .make (fun h => by cases h) (fun k hk => ?_), ?_⟩
  · rcases put_mem hk with h | rfl
    · exact hp.kids k h
    · exact hc
  · rw [size_of]
    have h1 := put_size (c := c) hi
    have h2 := hp.size
    omega
end Go.Ev.S

namespace Go.Ev.S
open Go Go.Ev
set_option linter.unusedVariables false
variable {N : Nat}

/-- The answer of a rule: a plan, no greater, and whether it was applied. -/
def Good (p : D) (r : Option D) : Prop := ∃ x f, r = some (.st [x, .bool f]) ∧ Pl x ∧ sz x ≤ sz p
theorem Good.no {p : D} (hp : Pl p) : Good p (some (.st [p, .bool false])) := ⟨p, false, rfl, hp, Nat.le_refl _⟩
theorem inb_1 (x : D) : inb 0 (len [x]) = true := rfl
theorem inb_2 (x y : D) : inb 0 (len [x, y]) = true := rfl
theorem inb_3 (x y : D) : inb 1 (len [x, y]) = true := rfl
theorem at_1 (x : D) (l : List D) : at_ (x :: l) 0 = x := rfl
theorem at_2 (x y : D) (l : List D) : at_ (x :: y :: l) 1 = y := rfl
theorem filter_is (x t : D) : filter_ N x t = some (.st [.int 6, .sl false [x], .int 0, .sl true [], .bool false, .sl t.nl t.es]) := rfl
theorem filter_pl {x : D} (hx : Pl x) (z : Bool) (l : List D) : Pl (.st [.int 6, .sl false [x], .int 0, .sl true [], .bool false, .sl z l]) := .make (fun h => by cases h) (fun k hk => by rw [List.mem_singleton.1 hk]; exact hx)
theorem filter_size (x : D) (z : Bool) (l : List D) : sz (.st [.int 6, .sl false [x], .int 0, .sl true [], .bool false, .sl z l]) = sz x + szL l + 7 := by rw [size_of]; simp only [szL]; omega

theorem any_1 {x a : Int} (h : ([D.int a].any fun d => decide (x = d.n)) = true) : x = a := by
  rw [List.any_eq_true] at h
  obtain ⟨d, hd, e⟩ := h
  rw [List.mem_singleton.1 hd] at e
  exact of_decide_eq_true e
theorem any_2 {x a b : Int} (h : ([D.int a, D.int b].any fun d => decide (x = d.n)) = true) : x = a ∨ x = b := by
  rw [List.any_eq_true] at h
  obtain ⟨d, hd, e⟩ := h
  have e := of_decide_eq_true e
  rcases List.mem_cons.1 hd with rfl | hd
  · exact .inl e
  · rw [List.mem_singleton.1 hd] at e; exact .inr e
theorem any_3 {x a b c : Int} (h : ([D.int a, D.int b, D.int c].any fun d => decide (x = d.n)) = true) : x = a ∨ x = b ∨ x = c := by
  rw [List.any_eq_true] at h
  obtain ⟨d, hd, e⟩ := h
  have e := of_decide_eq_true e
  rcases List.mem_cons.1 hd with rfl | hd
  · exact .inl e
  · rcases List.mem_cons.1 hd with rfl | hd
    · exact .inr (.inl e)
    · rw [List.mem_singleton.1 hd] at e; exact .inr (.inr e)
theorem replaced_0 {p c x : D} {l : List D} (hp : Pl p) (hx : (p.f 1).es = x :: l) (hs : sz p ≤ 16777215) (hc : Pl c) :
    ∃ q, replaced_ N p (.int 0) c = some q ∧ Pl q ∧ sz q + sz x ≤ sz p + sz c := by
  have h := replaced_good (N := N) (i := 0) hp (by rw [hx]; exact Nat.succ_pos _) hs hc
  rw [hx, at_1] at h
  exact h

theorem merge_good (hN : 16777217 ≤ N) {c p : D} (hp : Pl p) (hs : sz p ≤ 4194304) (hF : Fits N c p) : Good p (merge_ N (.st [c]) p) := by
  have P := hF.pat hN
  rcases merge_is hN (a := .st [c]) P hp (by omega) hF.2 with ⟨_, g⟩ | ⟨x, y, z, hx, hy, _, _, g⟩
  · rw [g]; exact Good.no hp
  · rw [g]
    have px : Pl x := hp.kids x (by rw [hx]; exact List.mem_singleton.2 rfl)
    have py : Pl y := px.kids y (by rw [hy]; exact List.mem_singleton.2 rfl)
    have s1 := hp.size
    have s2 := px.size
    rw [hx] at s1
    rw [hy] at s2
    simp only [szL] at s1 s2
    refine ⟨_, _, rfl, filter_pl py _ _, ?_⟩
    rw [filter_size, szL_app]
    omega

theorem down_good (hN : 16777217 ≤ N) {c p : D} (hp : Pl p) (hs : sz p ≤ 4194304) (hF : Fits N c p) : Good p (down_ N (.st [c]) p) := by
  have P := hF.pat hN
  unfold down_ down
  rw [safe_is hN p (by omega), obind_s, b_bool]
  cases hsafe : (ieq (p.f 0).n 6 && (p.f 5).es.all (sure N)) with
  | false => exact Good.no hp
  | true =>
    have h6 : (p.f 0).n = 6 := by rw [Bool.and_eq_true] at hsafe; exact ieq_is hsafe.1
    obtain ⟨x, hx, px, sx, bx, nlx⟩ := bd_one hN P hp (by omega) hF.2 (by omega)
    have s1 := hp.size
    rw [hx] at s1
    simp only [szL] at s1
    have l5 := len_kids p 5
    rw [hx]
    simp only [bno_t, cnd_f, inb_1, cnd_t, at_1]
    rw [step_is (by omega) x false [.int 2, .int 3, .int 5] (by decide), obind_s, b_bool]
    cases hst : ([D.int 2, D.int 3, D.int 5].any fun d => decide ((x.f 0).n = d.n)) with
    | false => exact Good.no hp
    | true =>
      have hop : (x.f 0).n = 2 ∨ (x.f 0).n = 3 ∨ (x.f 0).n = 5 := any_3 hst
      obtain ⟨y, hy, py, sy, by_, nly⟩ := bd_one hN P px (by omega) bx (by omega)
      obtain ⟨d, hd1, hd2⟩ := slots_is hN (.sl (p.f 5).nl (p.f 5).es) (by rw [es_sl]; omega)
      obtain ⟨v, hv⟩ := knows_is hN (c := c) py (by omega) (.sl d.nl d.es) (by rw [es_sl]; exact hd2)
      rw [hy]
      simp only [bno_t, cnd_f, inb_1, cnd_t, at_1]
      rw [hd1, obind_s, hv, obind_s, b_bool]
      cases v with
      | false => exact Good.no hp
      | true =>
        rw [bno_t, obind_s, cnd_f, filter_is, obind_s, nl_sl, es_sl]
        have pf := filter_pl py (p.f 5).nl (p.f 5).es
        obtain ⟨q, hq, pq, sq⟩ := replaced_0 (N := N) px hy (by omega) pf
        rw [hq, obind_s]
        refine ⟨_, _, rfl, pq, ?_⟩
        rw [filter_size] at sq
        omega

theorem sides_l0_good (hN : 16777217 ≤ N) {c p : D} (hp : Pl p) (hs : sz p ≤ 4194304) {x : D} (hx : (p.f 1).es = [x]) (o2 : D) {z : Bool} {k0 : Bool → D → Option D} {k1 : Option D} (h0 : ∀ q, Pl q → sz q ≤ sz p → Good p (k0 true q)) (h1 : Good p k1) : ∀ (n i : Nat), i ≤ (x.f 1).es.length → (x.f 1).es.length - i < n →
    Good p (sides_l0 (filter_ N) (knows_ N) (replaced_ N) (safe_ N) (slots_ N) (step_ N) N n z (x.f 1).es (ilen (len (x.f 1).es)) (i : Int) (.st [c]) p o2 k0 k1)
  | 0, i, _, h => by omega
  | n + 1, i, hi, h => by
    by_cases e : i = (x.f 1).es.length
    · subst e
      simp only [sides_l0, len_c, ilt_f, cnd_f]
      exact h1
    · have hlt : i < (x.f 1).es.length := by omega
      have px : Pl x := hp.kids x (by rw [hx]; exact List.mem_singleton.2 rfl)
      have s1 := hp.size
      rw [hx] at s1
      simp only [szL] at s1
      have lx := len_kids x 1
      have l5 := len_kids p 5
      have py := px.kids _ (at_mem hlt)
      have sy := sz_kid (at_mem hlt)
      obtain ⟨d, hd1, hd2⟩ := slots_is hN (.sl (p.f 5).nl (p.f 5).es) (by rw [es_sl]; omega)
      obtain ⟨v, hv⟩ := knows_is hN (c := c) py (by omega) (.sl d.nl d.es) (by rw [es_sl]; exact hd2)
      have ih := sides_l0_good hN hp hs hx o2 (c := c) (z := z) h0 h1 n (i + 1) (by omega) (by omega)
      simp only [sides_l0, len_c, ilt_t hlt, cnd_t, inb_t hlt, tn_c, iadd_1 (show i < 2 ^ 62 by omega), hd1, obind_s, hv, b_bool]
      cases v with
      | false => rw [cnd_f]; exact ih
      | true =>
        have pf := filter_pl py (p.f 5).nl (p.f 5).es
        obtain ⟨q, hq, pq, sq⟩ := replaced_good (N := N) px hlt (by omega) pf
        rw [filter_size] at sq
        have e2 := inb_1 x
        unfold len at e2
        rw [cnd_t, hx, e2, cnd_t, filter_is, obind_s, at_1, nl_sl, es_sl, hq, obind_s]
        exact h0 q pq (by omega)

theorem sides_good (hN : 16777217 ≤ N) {c p : D} (hp : Pl p) (hs : sz p ≤ 4194304) (hF : Fits N c p) : Good p (sides_ N (.st [c]) p) := by
  have P := hF.pat hN
  unfold sides_ sides
  rw [safe_is hN p (by omega), obind_s, b_bool]
  cases hsafe : (ieq (p.f 0).n 6 && (p.f 5).es.all (sure N)) with
  | false => exact Good.no hp
  | true =>
    have h6 : (p.f 0).n = 6 := by rw [Bool.and_eq_true] at hsafe; exact ieq_is hsafe.1
    obtain ⟨x, hx, px, sx, bx, nlx⟩ := bd_one hN P hp (by omega) hF.2 (by omega)
    rw [hx]
    simp only [inb_1, cnd_t, at_1]
    rw [step_is (by omega) x false [.int 4] (by decide), obind_s, b_bool, obind_s]
    have lx := len_kids x 1
    cases ([D.int 4].any fun d => decide ((x.f 0).n = d.n)) with
    | false => exact Good.no hp
    | true =>
      rw [cnd_t]
      exact sides_l0_good hN hp hs hx _ (fun q pq sq => ⟨q, true, rfl, pq, sq⟩) (Good.no hp) N 0 (Nat.zero_le _) (by omega)

theorem drop_good (hN : 16777217 ≤ N) {c p : D} (hp : Pl p) (hs : sz p ≤ 4194304) (hF : Fits N c p) : Good p (drop_ N (.st [c]) p) := by
  have P := hF.pat hN
  unfold drop_ drop
  rw [step_is (by omega) p false [.int 4] (by decide), obind_s, b_bool]
  cases hst : ([D.int 4].any fun d => decide ((p.f 0).n = d.n)) with
  | false => exact Good.no hp
  | true =>
    have h4 : (p.f 0).n = 4 := any_1 hst
    obtain ⟨x, y, hk, px, py, sx, sy, _⟩ := bd_two hN P hp (by omega) hF.2 h4
    rw [hk]
    simp only [bno_t, cnd_f, inb_2, inb_3, cnd_t, at_1, at_2]
    rw [step_is (by omega) y false [.int 1] (by decide), obind_s, b_bool]
    cases ([D.int 1].any fun d => decide ((y.f 0).n = d.n)) with
    | false => exact Good.no hp
    | true =>
      obtain ⟨v, hv⟩ := knows_is hN (c := c) px (by omega) (.sl false [.int (y.f 2).n]) (by rw [es_sl]; exact (by decide : 1 ≤ 16777215))
      rw [bno_t, cnd_f, hv, obind_s, b_bool]
      cases v with
      | false => exact Good.no hp
      | true => exact ⟨x, true, rfl, px, by omega⟩

theorem chain_good (hN : 16777217 ≤ N) {c p : D} (hp : Pl p) (hs : sz p ≤ 4194304) (hF : Fits N c p) : Good p (chain_ N (.st [c]) p) := by
  have P := hF.pat hN
  unfold chain_ chain
  rw [step_is (by omega) p false [.int 4] (by decide), obind_s, b_bool]
  cases hst : ([D.int 4].any fun d => decide ((p.f 0).n = d.n)) with
  | false => exact Good.no hp
  | true =>
    have h4 : (p.f 0).n = 4 := any_1 hst
    obtain ⟨x, y, hk, px, py, sx, sy, _, by_⟩ := bd_two hN P hp (by omega) hF.2 h4
    have s1 := hp.size
    rw [hk] at s1
    simp only [szL] at s1
    rw [hk]
    simp only [bno_t, cnd_f, inb_2, inb_3, cnd_t, at_1, at_2]
    rw [step_is (by omega) y false [.int 2, .int 3] (by decide), obind_s, b_bool, obind_s]
    cases hst2 : ([D.int 2, D.int 3].any fun d => decide ((y.f 0).n = d.n)) with
    | false => exact Good.no hp
    | true =>
      have hop : (y.f 0).n = 2 ∨ (y.f 0).n = 3 := any_2 hst2
      obtain ⟨w, hw, pw, sw, _, _⟩ := bd_one hN P py (by omega) by_ (by omega)
      rw [bno_t, cnd_f, hw]
      simp only [inb_1, cnd_t, at_1]
      rw [step_is (by omega) w false [.int 1] (by decide), obind_s, b_bool]
      cases ([D.int 1].any fun d => decide ((w.f 0).n = d.n)) with
      | false => exact Good.no hp
      | true =>
        obtain ⟨v, hv⟩ := knows_is hN (c := c) px (by omega) (.sl false [.int (w.f 2).n]) (by rw [es_sl]; exact (by decide : 1 ≤ 16777215))
        rw [bno_t, cnd_f, hv, obind_s, b_bool, obind_s]
        cases v with
        | false => exact Good.no hp
        | true =>
          obtain ⟨q, hq, pq, sq⟩ := replaced_0 (N := N) py hw (by omega) px
          rw [bno_t, cnd_f, hq, obind_s]
          exact ⟨q, true, rfl, pq, by omega⟩
end Go.Ev.S
