/- The plain laws: the same plan, parts, rules that split, merge and turn. The plain law of RulesTurns. The plain law of RulesTurns, joined. -/
import Derived.Test.YtakjjijmcnhpoaaPA
namespace Go.Ev.S
open Go Go.Ev
set_option linter.unusedVariables false
variable {N : Nat}

/-! ### The same -/
theorem SameV_is (hN : 16777217 ≤ N) (a : D) (h : sz a ≤ 16777215) : SameV_ N a a = some (.bool true) := by
  have hl := len_kids a 4
  unfold SameV_ SameV
  rw [ieq_in rfl, bno_t, cnd_f]
  rcases any_loop (fun n i => SameV_l0 N n i a a (fun (t4' : Bool) => some (D.bool t4')) (obind (cnd (ieq (D.n (D.f a 0)) (D.n (D.f a 0))) (cnd (beqb (D.b (D.f a 1)) (D.b (D.f a 1))) (cnd (ieq (D.n (D.f a 2)) (D.n (D.f a 2))) (some (seq_ (D.s (D.f a 3)) (D.s (D.f a 3)))) (some false)) (some false)) (some false)) fun (b : Bool) => some (D.bool b))) (a.f 4).es.length
      (fun i => some (bno (ieq (at_ (a.f 4).es i).n (at_ (a.f 4).es i).n))) (fun _ => some (D.bool false)) (obind (cnd (ieq (D.n (D.f a 0)) (D.n (D.f a 0))) (cnd (beqb (D.b (D.f a 1)) (D.b (D.f a 1))) (cnd (ieq (D.n (D.f a 2)) (D.n (D.f a 2))) (some (seq_ (D.s (D.f a 3)) (D.s (D.f a 3)))) (some false)) (some false)) (some false)) fun (b : Bool) => some (D.bool b))
      (fun n i hi => by simp only [SameV_l0, len_c, ilt_t hi, cnd_t, inb_t hi, tn_c, iadd_1 (show i < 2 ^ 62 by omega), obind_s])
      (fun n => by simp only [SameV_l0, len_c, ilt_f, cnd_f])
      (fun i hi => ⟨_, rfl⟩) N 0 (Nat.zero_le _) (by omega) with ⟨h1, g⟩ | ⟨j, _, h2, h3, g⟩
  · refine g.trans ?_
    rw [ieq_in rfl, ieq_in rfl, show beqb (D.b (D.f a 1)) (D.b (D.f a 1)) = true from by cases D.b (D.f a 1) <;> rfl, show seq_ (D.s (D.f a 3)) (D.s (D.f a 3)) = true from by simp [seq_]]
    rfl
  · rw [ieq_in rfl] at h3; cases h3

theorem SameTerms_same {G : D → D → Option D} (hN : 16777217 ≤ N) {a b : D} (h : a.es = b.es) (hl : a.es.length ≤ 16777215) (hG : ∀ x ∈ a.es, G x x = some (.bool true)) : SameTerms G N a b = some (.bool true) := by
  unfold SameTerms
  rw [ieq_in (by rw [h]), bno_t, cnd_f, ← h]
  rcases any_loop (fun n i => SameTerms_l0 G N n a.nl a.es b.nl a.es i (fun (t4' : Bool) => some (D.bool t4')) (some (D.bool true))) a.es.length
      (fun i => some false) (fun _ => some (D.bool false)) (some (D.bool true))
      (fun n i hi => by simp only [SameTerms_l0, len_c, ilt_t hi, cnd_t, inb_t hi, tn_c, iadd_1 (show i < 2 ^ 62 by omega), hG _ (at_mem hi), obind_s, b_bool, bno_t])
      (fun n => by simp only [SameTerms_l0, len_c, ilt_f, cnd_f])
      (fun i hi => ⟨_, rfl⟩) N 0 (Nat.zero_le _) (by omega) with ⟨h1, g⟩ | ⟨j, _, h2, h3, g⟩
  · exact g
  · cases h3

theorem both_is (hN : 16777217 ≤ N) : ∀ k : Nat, (∀ a, 2 * sz a < k → sz a ≤ 16777215 → SameTerm_ N k a a = some (.bool true)) ∧ (∀ a b : D, a.es = b.es → 2 * szL a.es + 1 < k → szL a.es ≤ 16777215 → SameTerms_ N k a b = some (.bool true))
  | 0 => ⟨fun _ h => by omega, fun _ _ _ h => by omega⟩
  | k + 1 => by
    obtain ⟨h1, h2⟩ := both_is hN k
    refine ⟨fun a h hs => ?_, fun a b e h hs => ?_⟩
    · have e : SameTerm_ N (k + 1) = SameTerm (SameTerms_ N k) (SameV_ N) N := rfl
      have hk := sz_kids a 1
      have h4 := sz_f a 4
      rw [e]
      unfold SameTerm
      rw [SameV_is hN _ (by omega), obind_s, ieq_in rfl, ieq_in rfl, show seq_ (D.s (D.f a 3)) (D.s (D.f a 3)) = true from by simp [seq_], h2 _ _ rfl (by rw [es_sl]; omega) (by rw [es_sl]; omega)]
      rfl
    · have e' : SameTerms_ N (k + 1) = SameTerms (SameTerm_ N k) N := rfl
      rw [e']
      have := szL_len a.es
      exact SameTerms_same hN e (by omega) fun x hx => h1 x (by have := szL_mem hx; omega) (by have := szL_mem hx; omega)

/-- Plans that tell the same. -/
structure Eqv (a b : D) : Prop where
  op : (a.f 0).n = (b.f 0).n
  kids : (a.f 1).es = (b.f 1).es
  slot : (a.f 2).n = (b.f 2).n
  edges : (a.f 3).es = (b.f 3).es
  back : (a.f 4).b = (b.f 4).b
  terms : (a.f 5).es = (b.f 5).es
theorem Eqv.refl (a : D) : Eqv a a := ⟨rfl, rfl, rfl, rfl, rfl, rfl⟩

theorem SamePlan_is (hN : 16777217 ≤ N) : ∀ (k : Nat) (a b : D), Eqv a b → sz a < k → sz a ≤ 4194304 → SamePlan_ N k a b = some (.bool true)
  | 0, _, _, _, h, _ => by omega
  | k + 1, a, b, E, h, hs => by
    have e : SamePlan_ N (k + 1) = SamePlan (SamePlan_ N k) (SameTerms_ N N) N := rfl
    have h5 := sz_kids a 5
    have h3 := len_kids a 3
    have h1 := len_kids a 1
    rw [e]
    unfold SamePlan
    rw [(both_is hN N).2 (.sl (a.f 5).nl (a.f 5).es) (.sl (b.f 5).nl (b.f 5).es) E.terms (by rw [es_sl]; omega) (by rw [es_sl]; omega), obind_s, E.op, ieq_in rfl, ieq_in (show ilen (len (a.f 1).es) = ilen (len (b.f 1).es) by rw [E.kids]), ieq_in E.slot, ieq_in (show ilen (len (a.f 3).es) = ilen (len (b.f 3).es) by rw [E.edges]), E.back, show beqb (b.f 4).b (b.f 4).b = true from by cases (b.f 4).b <;> rfl]
    refine (obind_s _ _).trans ?_
    refine (cnd_f _ _).trans ?_
    rcases any_loop (fun n i => SamePlan_l0 (SamePlan_ N k) (SameTerms_ N N) N n i a b (fun (t4' : Bool) => some (D.bool t4')) (SamePlan_l1 (SamePlan_ N k) (SameTerms_ N N) N N 0 a b (fun (t4' : Bool) => some (D.bool t4')) (some (D.bool true)))) (a.f 3).es.length
      (fun i => some false) (fun _ => some (D.bool false)) (SamePlan_l1 (SamePlan_ N k) (SameTerms_ N N) N N 0 a b (fun (t4' : Bool) => some (D.bool t4')) (some (D.bool true)))
      (fun n i hi => by simp only [SamePlan_l0, ← E.edges, len_c, ilt_t hi, cnd_t, inb_t hi, tn_c, iadd_1 (show i < 2 ^ 62 by omega), obind_s, ieq_in rfl, bno_t])
      (fun n => by simp only [SamePlan_l0, len_c, ilt_f, cnd_f])
      (fun i hi => ⟨_, rfl⟩) N 0 (Nat.zero_le _) (by omega) with ⟨_, g⟩ | ⟨j, _, _, h3, g⟩
    · refine g.trans ?_
      rcases any_loop (fun n i => SamePlan_l1 (SamePlan_ N k) (SameTerms_ N N) N n i a b (fun (t4' : Bool) => some (D.bool t4')) (some (D.bool true))) (a.f 1).es.length
        (fun i => some false) (fun _ => some (D.bool false)) (some (D.bool true))
        (fun n i hi => by
          have hk := sz_kid (at_mem hi)
          have := SamePlan_is hN k (at_ (a.f 1).es i) _ (Eqv.refl _) (by omega) (by omega)
          simp only [SamePlan_l1, ← E.kids, len_c, ilt_t hi, cnd_t, inb_t hi, tn_c, iadd_1 (show i < 2 ^ 62 by omega), obind_s, this, b_bool, bno_t])
        (fun n => by simp only [SamePlan_l1, len_c, ilt_f, cnd_f])
        (fun i hi => ⟨_, rfl⟩) N 0 (Nat.zero_le _) (by omega) with ⟨_, g⟩ | ⟨j, _, _, h3, g⟩
      · exact g
      · cases h3
    · cases h3

/-! ### Parts -/
theorem terms_l0_is {G : D → D → Option D} {o0 : D} {t1 : Int} (hl : (o0.f 1).es.length ≤ 16777215) (hG : ∀ x ∈ (o0.f 1).es, ∀ y, ∃ d, G x y = some d) {k : Int → Option D} : ∀ (n i : Nat) (t5 : Int), i ≤ (o0.f 1).es.length → (o0.f 1).es.length - i < n → ∃ v, terms_l0 G N n t1 t5 (i : Int) o0 k = k v
  | 0, i, _, _, h => by omega
  | n + 1, i, t5, hi, h => by
    by_cases e : i = (o0.f 1).es.length
    · subst e
      exact ⟨t5, by simp only [terms_l0, len_c, ilt_f, cnd_f, obind_s]⟩
    · have hlt : i < (o0.f 1).es.length := by omega
      simp only [terms_l0, len_c, ilt_t hlt, cnd_t, obind_s, inb_t hlt, tn_c, iadd_1 (show i < 2 ^ 62 by omega)]
      cases ile t5 t1 with
      | false => exact ⟨_, rfl⟩
      | true =>
        rw [cnd_t]
        obtain ⟨d, hd⟩ := hG _ (at_mem hlt) (D.int (isub IntKind.i64 t1 t5))
        rw [hd, obind_s]
        exact terms_l0_is hl hG n (i + 1) _ (by omega) (by omega)
theorem terms_is (hN : 16777217 ≤ N) : ∀ (k : Nat) (a b : D), sz a < k → sz a ≤ 16777215 → ∃ d, terms_ N k a b = some d
  | 0, _, _, h, _ => by omega
  | k + 1, a, b, h, hs => by
    have hl := len_kids a 1
    obtain ⟨v, hv⟩ := terms_l0_is (N := N) (G := terms_ N k) (o0 := a) (t1 := b.n) (by omega) (fun x hx y => terms_is hN k x y (by have := sz_kid hx; omega) (by have := sz_kid hx; omega)) (k := fun (t5' : Int) => some (D.int t5')) N 0 1 (Nat.zero_le _) (by omega)
    exact ⟨_, hv⟩
theorem Parts_l0_is {X G : D → D → Option D} {o0 : D} {t1 : Int} (hl : (o0.f 5).es.length ≤ 16777215) (hG : ∀ x ∈ (o0.f 5).es, ∀ y, ∃ d, G x y = some d) {k : Int → Option D} : ∀ (n i : Nat) (t5 : Int), i ≤ (o0.f 5).es.length → (o0.f 5).es.length - i < n → ∃ v, Parts_l0 X G N n t1 t5 (i : Int) o0 k = k v
  | 0, i, _, _, h => by omega
  | n + 1, i, t5, hi, h => by
    by_cases e : i = (o0.f 5).es.length
    · subst e
      exact ⟨t5, by simp only [Parts_l0, len_c, ilt_f, cnd_f, obind_s]⟩
    · have hlt : i < (o0.f 5).es.length := by omega
      simp only [Parts_l0, len_c, ilt_t hlt, cnd_t, obind_s, inb_t hlt, tn_c, iadd_1 (show i < 2 ^ 62 by omega)]
      cases ile t5 t1 with
      | false => exact ⟨_, rfl⟩
      | true =>
        rw [cnd_t]
        obtain ⟨d, hd⟩ := hG _ (at_mem hlt) (D.int (isub IntKind.i64 t1 t5))
        rw [hd, obind_s]
        exact Parts_l0_is hl hG n (i + 1) _ (by omega) (by omega)
theorem Parts_l1_is {G X : D → D → Option D} {o0 : D} {t1 : Int} (hl : (o0.f 1).es.length ≤ 16777215) (hG : ∀ x ∈ (o0.f 1).es, ∀ y, ∃ d, G x y = some d) {k : Int → Option D} : ∀ (n i : Nat) (t5 : Int), i ≤ (o0.f 1).es.length → (o0.f 1).es.length - i < n → ∃ v, Parts_l1 G X N n t1 t5 (i : Int) o0 k = k v
  | 0, i, _, _, h => by omega
  | n + 1, i, t5, hi, h => by
    by_cases e : i = (o0.f 1).es.length
    · subst e
      exact ⟨t5, by simp only [Parts_l1, len_c, ilt_f, cnd_f, obind_s]⟩
    · have hlt : i < (o0.f 1).es.length := by omega
      simp only [Parts_l1, len_c, ilt_t hlt, cnd_t, obind_s, inb_t hlt, tn_c, iadd_1 (show i < 2 ^ 62 by omega)]
      cases ile t5 t1 with
      | false => exact ⟨_, rfl⟩
      | true =>
        rw [cnd_t]
        obtain ⟨d, hd⟩ := hG _ (at_mem hlt) (D.int (isub IntKind.i64 t1 t5))
        rw [hd, obind_s]
        exact Parts_l1_is hl hG n (i + 1) _ (by omega) (by omega)
theorem Parts_is (hN : 16777217 ≤ N) : ∀ (k : Nat) (a b : D), sz a < k → sz a ≤ 16777215 → ∃ d, Parts_ N k a b = some d
  | 0, _, _, h, _ => by omega
  | k + 1, a, b, h, hs => by
    have hl := len_kids a 1
    have hl5 := len_kids a 5
    have e : Parts_ N (k + 1) = Parts (Parts_ N k) (terms_ N N) N := rfl
    rw [e]
    unfold Parts
    obtain ⟨v, hv⟩ := Parts_l0_is (N := N) (X := Parts_ N k) (G := terms_ N N) (o0 := a) (t1 := b.n) (by omega) (fun x hx y => terms_is hN N x y (by have := sz_kid hx; omega) (by have := sz_kid hx; omega)) (k := fun (t5' : Int) => Parts_l1 (Parts_ N k) (terms_ N N) N N (D.n b) t5' 0 a fun (t5' : Int) => some (D.int t5')) N 0 (iadd IntKind.i64 (iadd IntKind.i64 1 (ilen (len (D.es (D.f a 5))))) (ilen (len (D.es (D.f a 3))))) (Nat.zero_le _) (by omega)
    obtain ⟨w, hw⟩ := Parts_l1_is (N := N) (G := Parts_ N k) (X := terms_ N N) (o0 := a) (t1 := b.n) (by omega) (fun x hx y => Parts_is hN k x y (by have := sz_kid hx; omega) (by have := sz_kid hx; omega)) (k := fun (t5' : Int) => some (D.int t5')) N 0 v (Nat.zero_le _) (by omega)
    exact ⟨_, hv.trans hw⟩

/-! ### What a plan binds, as one word -/
noncomputable def bd (N : Nat) (c p : D) : D := (bound_ N N (ctx c) p).getD (.sl true [])
theorem bd_is (hN : 16777217 ≤ N) {c : D} (P : Pat c) {p : D} (hp : Pl p) (hs : sz p ≤ 16777215) {k : Nat} (hk : sz p < k) : bound_ N k (ctx c) p = some (bd N c p) ∧ Fine c (bd N c p) := by
  obtain ⟨r, h1, h2, h3⟩ := bound_is hN P N p hp (by omega) hs
  have : bd N c p = r := by unfold bd; rw [h1]; rfl
  rw [this]
  exact ⟨h3 k hk, h2⟩

/-- What is bound: the plan's node has as many kids as it should, and each binds. -/
theorem bd_kids (hN : 16777217 ≤ N) {c : D} (P : Pat c) {f0 f2 f3 f4 f5 : D} {nl : Bool} {ks : List D} (hp : Pl (.st [f0, .sl nl ks, f2, f3, f4, f5])) (hs : sz (.st [f0, .sl nl ks, f2, f3, f4, f5]) ≤ 16777215) (h : (bd N c (.st [f0, .sl nl ks, f2, f3, f4, f5])).nl = false) :
    (f0.n = 1 ∧ ks = []) ∨ ((f0.n = 2 ∨ f0.n = 3 ∨ f0.n = 5 ∨ f0.n = 6) ∧ ∃ x, ks = [x] ∧ (bd N c x).nl = false) ∨ (f0.n = 4 ∧ ∃ x y, ks = [x, y] ∧ (bd N c x).nl = false ∧ (bd N c y).nl = false) := by
  obtain ⟨hb, hf⟩ := bd_is hN P hp hs (k := sz (.st [f0, .sl nl ks, f2, f3, f4, f5]) + 1) (by omega)
  have hks : ∀ x ∈ ks, Pl x := by cases hp; assumption
  have bad : ∀ r : D, bound_ N (sz (.st [f0, .sl nl ks, f2, f3, f4, f5]) + 1) (ctx c) (.st [f0, .sl nl ks, f2, f3, f4, f5]) = some r → r.nl = true → False := fun r g hr => by
    rw [hb] at g; cases g; rw [h] at hr; cases hr
  match ks, hks, hs, hb, hf, bad with
  | [], hks, hs, hb, hf, bad =>
    left
    rcases bound0_is (Gb := binds_ N) (X := bound_ N (sz (.st [f0, .sl nl [], f2, f3, f4, f5]))) (Y := bound_ N 0) (Ge := edge_ N) (Gm := meetB_ N) (N := N) P f0 f2 f3 f4 f5 nl with ⟨h1, g⟩ | ⟨h1, _⟩
    · exact (bad _ g rfl).elim
    · exact ⟨h1, rfl⟩
  | [x], hks, hs, hb, hf, bad =>
    right; left
    have hx := sz_sub (f0 := f0) (f2 := f2) (f3 := f3) (f4 := f4) (f5 := f5) (nl := nl) (List.mem_singleton.2 rfl : x ∈ [x])
    have hd := bd_is hN P (hks x (List.mem_singleton.2 rfl)) (by omega) hx
    rcases bound1_is (Gb := binds_ N) (X := bound_ N (sz (.st [f0, .sl nl [x], f2, f3, f4, f5]))) (Ge := edge_ N) (Gm := meetB_ N) (N := N) P f0 x f2 f3 f4 f5 nl with ⟨h1, g⟩ | ⟨h1, g⟩
    · exact (bad _ g rfl).elim
    · refine ⟨h1, x, rfl, ?_⟩
      cases hn : (bd N c x).nl with
      | false => rfl
      | true =>
        rw [hd.1, obind_s] at g
        unfold kid1 at g
        rw [hn, cnd_t] at g
        exact (bad _ g rfl).elim
  | [x, y], hks, hs, hb, hf, bad =>
    right; right
    have hx := sz_sub (f0 := f0) (f2 := f2) (f3 := f3) (f4 := f4) (f5 := f5) (nl := nl) (by simp : x ∈ [x, y])
    have hy := sz_sub (f0 := f0) (f2 := f2) (f3 := f3) (f4 := f4) (f5 := f5) (nl := nl) (by simp : y ∈ [x, y])
    have hd := bd_is hN P (hks x (by simp)) (by omega) hx
    have he := bd_is hN P (hks y (by simp)) (by omega) hy
    rcases bound2_is (Gb := binds_ N) (X := bound_ N (sz (.st [f0, .sl nl [x, y], f2, f3, f4, f5]))) (Ge := edge_ N) (Gm := meetB_ N) (N := N) P f0 x y f2 f3 f4 f5 nl with ⟨h1, g⟩ | ⟨h1, g⟩
    · exact (bad _ g rfl).elim
    · refine ⟨h1, x, y, rfl, ?_⟩
      rw [hd.1, obind_s, he.1, obind_s] at g
      cases hn : (bd N c x).nl with
      | true => rw [hn, cnd_t] at g; exact (bad _ g rfl).elim
      | false =>
        cases hm : (bd N c y).nl with
        | false => exact ⟨rfl, rfl⟩
        | true =>
          rw [hn, cnd_f] at g
          unfold kid2 at g
          rw [hn, hm, cnd_f, cnd_t] at g
          exact (bad _ g rfl).elim
  | x :: y :: z :: ks, hks, hs, hb, hf, bad =>
    exact (bad _ (boundG_is (Gb := binds_ N) (X := bound_ N (sz (.st [f0, .sl nl (x :: y :: z :: ks), f2, f3, f4, f5]))) (Ge := edge_ N) (Gm := meetB_ N) (N := N) (ctx c) (.st [f0, .sl nl (x :: y :: z :: ks), f2, f3, f4, f5]) (by show 3 ≤ (x :: y :: z :: ks).length; simp)) rfl).elim

/-- A filter binds what its kid binds, if all its terms are bound. -/
theorem bd_filter (hN : 16777217 ≤ N) {c : D} (P : Pat c) {f0 x f2 f3 f4 f5 : D} {nl : Bool} (hp : Pl (.st [f0, .sl nl [x], f2, f3, f4, f5])) (hs : sz (.st [f0, .sl nl [x], f2, f3, f4, f5]) ≤ 16777215) (h6 : f0.n = 6) :
    bd N c (.st [f0, .sl nl [x], f2, f3, f4, f5]) = if (bd N c x).nl = false ∧ f5.es.all (bnds N (bd N c x).es) = true then bd N c x else .sl true [] := by
  have hks : Pl x := by cases hp with | mk _ h => exact h x (List.mem_singleton.2 rfl)
  have hx := sz_sub (f0 := f0) (f2 := f2) (f3 := f3) (f4 := f4) (f5 := f5) (nl := nl) (List.mem_singleton.2 rfl : x ∈ [x])
  have hb := bd_is hN P hp hs (k := sz (.st [f0, .sl nl [x], f2, f3, f4, f5]) + 1) (by omega)
  have hd := bd_is hN P hks (by omega) hx
  rcases bound1_is (Gb := binds_ N) (X := bound_ N (sz (.st [f0, .sl nl [x], f2, f3, f4, f5]))) (Ge := edge_ N) (Gm := meetB_ N) (N := N) P f0 x f2 f3 f4 f5 nl with ⟨h1, g⟩ | ⟨h1, g⟩
  · exact absurd h6 h1.2.2.2
  · rw [hd.1, obind_s] at g
    obtain ⟨r, r1, _, r2, _⟩ := kid1_is hN P (.st [f0, .sl nl [x], f2, f3, f4, f5]) hs hd.2
    rw [r1] at g
    have := hb.1.symm.trans g
    rw [Option.some.inj this]
    exact r2 h6
/-- A join binds if both kids bind apart. -/
theorem bd_join (hN : 16777217 ≤ N) {c : D} (P : Pat c) {f0 x y f2 f3 f4 f5 : D} {nl : Bool} (hp : Pl (.st [f0, .sl nl [x, y], f2, f3, f4, f5])) (hs : sz (.st [f0, .sl nl [x, y], f2, f3, f4, f5]) ≤ 16777215) (h4 : f0.n = 4) :
    (bd N c (.st [f0, .sl nl [x, y], f2, f3, f4, f5])).nl = false ↔ (bd N c x).nl = false ∧ (bd N c y).nl = false ∧ apart (c.f 0).es.length (bd N c x).es (bd N c y).es := by
  have hks : ∀ k ∈ [x, y], Pl k := by cases hp; assumption
  have hx := sz_sub (f0 := f0) (f2 := f2) (f3 := f3) (f4 := f4) (f5 := f5) (nl := nl) (by simp : x ∈ [x, y])
  have hy := sz_sub (f0 := f0) (f2 := f2) (f3 := f3) (f4 := f4) (f5 := f5) (nl := nl) (by simp : y ∈ [x, y])
  have hb := bd_is hN P hp hs (k := sz (.st [f0, .sl nl [x, y], f2, f3, f4, f5]) + 1) (by omega)
  have hd := bd_is hN P (hks x (by simp)) (by omega) hx
  have he := bd_is hN P (hks y (by simp)) (by omega) hy
  rcases bound2_is (Gb := binds_ N) (X := bound_ N (sz (.st [f0, .sl nl [x, y], f2, f3, f4, f5]))) (Ge := edge_ N) (Gm := meetB_ N) (N := N) P f0 x y f2 f3 f4 f5 nl with ⟨h1, g⟩ | ⟨h1, g⟩
  · exact absurd h4 h1
  · rw [hd.1, obind_s, he.1, obind_s] at g
    obtain ⟨r, r1, r2, r3⟩ := kid2_is hN (Gb := binds_ N) (Ge := edge_ N) (Gm := meetB_ N) P hd.2 he.2
    have r3' : (cnd (bd N c x).nl (some (D.sl true [])) (kid2 (binds_ N) (edge_ N) (meetB_ N) N (ctx c) (bd N c x) (bd N c y))) = some r := by
      rw [← r1]; unfold kid2; cases (bd N c x).nl <;> rfl
    rw [r3'] at g
    have := hb.1.symm.trans g
    rw [Option.some.inj this]
    exact r3

/-! ### Bound and the first words of Apply -/
/-- The pattern is well made and the plan binds. -/
def Fits (N : Nat) (c p : D) : Prop := pattern_ N c = some (.bool true) ∧ (bd N c p).nl = false
theorem Fits.pat (hN : 16777217 ≤ N) {c p : D} (h : Fits N c p) : Pat c := by
  obtain ⟨v, h1, h2⟩ := pattern_is hN c
  rw [h.1] at h1
  cases h1
  obtain ⟨p1, p2, p3, p4⟩ := h2 rfl
  exact ⟨p1, p2, p3, p4⟩
theorem Bound_is (hN : 16777217 ≤ N) {c p : D} (hp : Pl p) (hs : sz p ≤ 16777215) : (Fits N c p ∧ Bound_ N p c = some (.st [.sl false (bd N c p).es, .int 0])) ∨ (¬ Fits N c p ∧ ∃ e, e ≠ 0 ∧ Bound_ N p c = some (.st [.sl true [], .int e])) := by
  obtain ⟨v, h1, h2⟩ := pattern_is hN c
  unfold Bound_ Bound
  rw [h1, obind_s]
  cases v with
  | false =>
    right
    exact ⟨fun h => (by rw [h.1] at h1; cases h1), 1, by decide, rfl⟩
  | true =>
    obtain ⟨p1, p2, p3, p4⟩ := h2 rfl
    have hb := bd_is hN (c := c) ⟨p1, p2, p3, p4⟩ hp hs (k := N) (by omega)
    rw [b_bool, bno_t, cnd_f]
    have : bound_ N N (.st [c, .int (ilen (len (c.f 0).es))]) p = some (bd N c p) := hb.1
    rw [this, obind_s]
    cases hn : (bd N c p).nl with
    | true => exact .inr ⟨fun h => (by rw [h.2] at hn; cases hn), 131, by decide, rfl⟩
    | false => exact .inl ⟨⟨h1, hn⟩, rfl⟩

theorem Apply_not (hN : 16777217 ≤ N) {c p : D} (hp : Pl p) (hs : sz p ≤ 16777215) (h : ¬ Fits N c p) (r : D) : Apply_ N r p c = some (.st [p, .bool false]) := by
  rcases Bound_is hN (c := c) hp hs with ⟨h1, _⟩ | ⟨_, e, he, h1⟩
  · exact absurd h1 h
  · unfold Apply_ Apply
    rw [h1, obind_s, show (D.f (D.st [D.sl true [], D.int e]) 1).n = e from rfl, ieq_no he]
    rfl
theorem Apply_5 (hN : 16777217 ≤ N) {c p : D} (hp : Pl p) (hs : sz p ≤ 16777215) (h : Fits N c p) : Apply_ N (.int 5) p c = obind (turn_ N (.st [c]) p) fun d => some (.st [d.f 0, .bool (d.f 1).b]) := by
  rcases Bound_is hN (c := c) hp hs with ⟨_, h1⟩ | ⟨h1, _⟩
  · unfold Apply_ Apply
    rw [h1, obind_s]
    rfl
  · exact absurd h h1
theorem Apply_1 (hN : 16777217 ≤ N) {c p : D} (hp : Pl p) (hs : sz p ≤ 16777215) (h : Fits N c p) : Apply_ N (.int 1) p c = obind (split_ N (.st [c]) p) fun d => some (.st [d.f 0, .bool (d.f 1).b]) := by
  rcases Bound_is hN (c := c) hp hs with ⟨_, h1⟩ | ⟨h1, _⟩
  · unfold Apply_ Apply
    rw [h1, obind_s]
    rfl
  · exact absurd h h1
theorem Apply_2 (hN : 16777217 ≤ N) {c p : D} (hp : Pl p) (hs : sz p ≤ 16777215) (h : Fits N c p) : Apply_ N (.int 2) p c = obind (merge_ N (.st [c]) p) fun d => some (.st [d.f 0, .bool (d.f 1).b]) := by
  rcases Bound_is hN (c := c) hp hs with ⟨_, h1⟩ | ⟨h1, _⟩
  · unfold Apply_ Apply
    rw [h1, obind_s]
    rfl
  · exact absurd h h1

theorem replaced_is {p c : D} {i : Nat} (hn : (p.f 1).nl = false) (hi : i < (p.f 1).es.length) (hs : (p.f 1).es.length ≤ 16777215) :
    replaced_ N p (.int (i : Int)) c = some (.st [.int (p.f 0).n, .sl false (put (p.f 1).es i c), .int (p.f 2).n, .sl (p.f 3).nl (p.f 3).es, .bool (p.f 4).b, .sl (p.f 5).nl (p.f 5).es]) := by
  unfold replaced_ replaced
  rw [hn, cnd_f, nadd_c, len_c, room_in (by omega) (by omega), cnd_t, n_int, inb_t hi, cnd_t, tn_c]

theorem cat_is (hN : 16777217 ≤ N) (z : Bool) (x y : D) (hx : x.es.length ≤ 16777215) (hy : y.es.length ≤ 16777215) : ∃ b, ConcatT_ N (.sl z [x, y]) = some (.sl b (x.es ++ y.es)) := by
  have e : ConcatT_ N (.sl z [x, y]) = ConcatT_p N z x y := rfl
  rw [e]
  unfold ConcatT_p
  simp only [len_c, ilen_c]
  rw [iadd_in (x := 0) (by omega), iadd_in (by omega), isub_in (by omega), ilt_no (by omega), cnd_f, ilt_no (by omega), cnd_f, cnd_f]
  by_cases h : (0 : Int) < 0 + (x.es.length : Int) + y.es.length - 0
  · rw [ilt_in h, cnd_t, cnd_t, room_in (by unfold tn; omega) (by unfold tn; omega), cnd_t, inc_in (by omega), cnd_t, nadd_c, nadd_c, room_in (by omega) (by omega), cnd_t, room_in (by omega) (by omega), cnd_t]
    refine ⟨false, ?_⟩
    congr 2
    simp [cut, app, List.take_append]
    exact List.take_of_length_le (by omega)
  · have h1 : x.es = [] := List.eq_nil_of_length_eq_zero (by omega)
    have h2 : y.es = [] := List.eq_nil_of_length_eq_zero (by omega)
    rw [ilt_no h, cnd_f, h1, h2]
    exact ⟨_, rfl⟩
end Go.Ev.S

namespace Go.Ev.S
open Go Go.Ev
set_option linter.unusedVariables false
variable {N : Nat}

theorem turn_not (hN : 16777217 ≤ N) {a p : D} (h : (p.f 0).n ≠ 4) : turn_ N a p = some (.st [p, .bool false]) := by
  unfold turn_ turn
  rw [step_is (by omega) p false [.int 4] (by decide), obind_s]
  have : ([D.int 4].any fun d => decide ((p.f 0).n = d.n)) = false := by simp [n_int, h]
  rw [this]; rfl
theorem turn_is (hN : 16777217 ≤ N) {a f0 x y f2 f3 f4 f5 : D} (h : f0.n = 4) :
    turn_ N a (.st [f0, .sl false [x, y], f2, f3, f4, f5]) = some (.st [.st [.int 4, .sl false [y, x], .int f2.n, .sl f3.nl f3.es, .bool f4.b, .sl f5.nl f5.es], .bool true]) := by
  unfold turn_ turn
  rw [step_is (by omega) _ false [.int 4] (by decide), obind_s]
  have : ([D.int 4].any fun d => decide (((D.st [f0, .sl false [x, y], f2, f3, f4, f5]).f 0).n = d.n)) = true := by
    have e : ((D.st [f0, .sl false [x, y], f2, f3, f4, f5]).f 0).n = 4 := h
    simp [n_int, e]
  rw [this]
  refine (cnd_f _ _).trans ?_
  refine (cnd_t _ _).trans ?_
  rw [show D.int 0 = D.int ((0 : Nat) : Int) from rfl, show D.int 1 = D.int ((1 : Nat) : Int) from rfl]
  rw [replaced_is (p := .st [f0, .sl false [x, y], f2, f3, f4, f5]) rfl (show 0 < 2 by decide) (show 2 ≤ 16777215 by decide), obind_s]
  refine (cnd_t _ _).trans ?_
  show obind (replaced_ N (.st [.int f0.n, .sl false (put [x, y] 0 y), .int f2.n, .sl f3.nl f3.es, .bool f4.b, .sl f5.nl f5.es]) (.int ((1 : Nat) : Int)) x) _ = _
  rw [replaced_is (p := .st [.int f0.n, .sl false (put [x, y] 0 y), .int f2.n, .sl f3.nl f3.es, .bool f4.b, .sl f5.nl f5.es]) rfl (show 1 < 2 by decide) (show 2 ≤ 16777215 by decide), obind_s]
  rw [show (D.f (D.st [D.int f0.n, D.sl false (put [x, y] 0 y), D.int f2.n, D.sl f3.nl f3.es, D.bool f4.b, D.sl f5.nl f5.es]) 0).n = 4 from h]
  rfl

theorem split_is (hN : 16777217 ≤ N) {a p : D} (hs : sz p ≤ 16777215) {x : D} (hx : (p.f 1).es = [x]) :
    (¬ ((p.f 0).n = 6 ∧ (p.f 5).es.all (sure N) = true ∧ 2 ≤ (p.f 5).es.length) ∧ split_ N a p = some (.st [p, .bool false])) ∨
    (((p.f 0).n = 6 ∧ (p.f 5).es.all (sure N) = true) ∧ ∃ t r, (p.f 5).es = t :: r ∧ split_ N a p = some (.st [.st [.int 6, .sl false [.st [.int 6, .sl false [x], .int 0, .sl true [], .bool false, .sl (p.f 5).nl r]], .int 0, .sl true [], .bool false, .sl false [t]], .bool true])) := by
  unfold split_ split
  rw [safe_is hN p hs, obind_s, b_bool]
  cases h6 : ieq (p.f 0).n 6 with
  | false => exact .inl ⟨fun h => ieq_not h6 h.1, rfl⟩
  | true =>
    cases hall : (p.f 5).es.all (sure N) with
    | false => exact .inl ⟨fun h => (by cases h.2.1), rfl⟩
    | true =>
      cases hl : ilt (ilen (len (p.f 5).es)) 2 with
      | true =>
        refine .inl ⟨fun h => ?_, rfl⟩
        have := ilt_is hl
        unfold ilen len at this
        omega
      | false =>
        have hl := ilt_not hl
        unfold ilen len at hl
        right
        refine ⟨⟨ieq_is h6, rfl⟩, ?_⟩
        cases ht : (p.f 5).es with
        | nil => rw [ht] at hl; simp at hl
        | cons t r =>
          refine ⟨t, r, rfl, ?_⟩
          rw [hx]
          refine (obind_s _ _).trans ?_
          refine (cnd_f _ _).trans ?_
          refine (cnd_t _ _).trans ?_
          rw [inc_in (by unfold ilen len; simp only [List.length_cons]; omega), cnd_t]
          have e : cut (t :: r) 1 (nsub (len (t :: r)) 1) = r := by simp [cut, nsub, len]
          unfold filter_ filter
          rw [e, inb_in (i := 0) (by unfold len; simp only [List.length_cons]; omega)]
          rfl

theorem all_false {l : List D} {g : D → Bool} (h : l.all g = false) : ¬ l.all g = true := by rw [h]; exact fun h => by cases h

/-- Merge, of plans that bind. -/
theorem merge_is (hN : 16777217 ≤ N) {c a : D} (P : Pat c) {p : D} (hp : Pl p) (hs : sz p ≤ 8388607) (hb : (bd N c p).nl = false) :
    (¬ (((p.f 0).n = 6 ∧ (p.f 5).es.all (sure N) = true) ∧ ∃ x, (p.f 1).es = [x] ∧ (x.f 0).n = 6 ∧ (x.f 5).es.all (sure N) = true) ∧ merge_ N a p = some (.st [p, .bool false])) ∨
    (∃ x y z, (p.f 1).es = [x] ∧ (x.f 1).es = [y] ∧ (p.f 0).n = 6 ∧ (x.f 0).n = 6 ∧ merge_ N a p = some (.st [.st [.int 6, .sl false [y], .int 0, .sl true [], .bool false, .sl z ((p.f 5).es ++ (x.f 5).es)], .bool true])) := by
  unfold merge_ merge
  rw [safe_is hN p (by omega), obind_s, b_bool]
  cases h6 : ieq (p.f 0).n 6 with
  | false => exact .inl ⟨fun h => ieq_not h6 h.1.1, rfl⟩
  | true =>
    cases hall : (p.f 5).es.all (sure N) with
    | false => exact .inl ⟨fun h => (by cases h.1.2), rfl⟩
    | true =>
      have q6 := ieq_is h6
      have hp' := hp
      obtain ⟨hn, hks⟩ := hp
      rename_i f0 f2 f3 f4 f5 nl ks
      rcases bd_kids hN P hp' (by omega) hb with ⟨h, _⟩ | ⟨_, x, rfl, hx⟩ | ⟨h, _⟩
      · have q6 : f0.n = 6 := q6
        omega
      · have hsx := sz_sub (f0 := f0) (f2 := f2) (f3 := f3) (f4 := f4) (f5 := f5) (nl := nl) (List.mem_singleton.2 rfl : x ∈ [x])
        have hpx := hks x (List.mem_singleton.2 rfl)
        have e1 : ((D.st [f0, D.sl nl [x], f2, f3, f4, f5]).f 1).es = [x] := rfl
        rw [e1]
        have ea : at_ [x] 0 = x := rfl
        rw [ea, show inb 0 (len [x]) = true from rfl, safe_is hN x (by omega)]
        cases h6x : ieq (x.f 0).n 6 with
        | false => exact .inl ⟨fun ⟨_, x', e, h, _⟩ => (by cases e; exact ieq_not h6x h), rfl⟩
        | true =>
          cases hallx : (x.f 5).es.all (sure N) with
          | false => exact .inl ⟨fun ⟨_, x', e, _, h⟩ => (by cases e; rw [hallx] at h; cases h), rfl⟩
          | true =>
            have q6x := ieq_is h6x
            right
            have hpx' := hpx
            obtain ⟨hnx, hksx⟩ := hpx
            rename_i g0 g2 g3 g4 g5 nlx ksx
            rcases bd_kids hN P hpx' (by omega) hx with ⟨h, _⟩ | ⟨_, y, rfl, hy⟩ | ⟨h, _⟩
            · have q6x : g0.n = 6 := q6x
              omega
            · have l1 := len_kids (D.st [f0, D.sl nl [D.st [g0, .sl nlx [y], g2, g3, g4, g5]], f2, f3, f4, f5]) 5
              have l2 := len_kids (D.st [g0, .sl nlx [y], g2, g3, g4, g5]) 5
              obtain ⟨z, hz⟩ := cat_is hN false (.sl ((D.st [f0, D.sl nl [D.st [g0, .sl nlx [y], g2, g3, g4, g5]], f2, f3, f4, f5]).f 5).nl ((D.st [f0, D.sl nl [D.st [g0, .sl nlx [y], g2, g3, g4, g5]], f2, f3, f4, f5]).f 5).es) (.sl ((D.st [g0, .sl nlx [y], g2, g3, g4, g5]).f 5).nl ((D.st [g0, .sl nlx [y], g2, g3, g4, g5]).f 5).es) (by rw [es_sl]; omega) (by rw [es_sl]; omega)
              refine ⟨_, y, z, rfl, rfl, q6, q6x, ?_⟩
              refine (obind_s _ _).trans ?_
              refine (cnd_f _ _).trans ?_
              refine (cnd_t _ _).trans ?_
              refine (cnd_t _ _).trans ?_
              rw [hz, obind_s]
              rfl
            · have q6x : g0.n = 6 := q6x
              omega
      · have q6 : f0.n = 6 := q6
        omega
end Go.Ev.S

namespace Go.Ev.S
open Go Go.Ev
set_option linter.unusedVariables false
variable {N : Nat}

theorem st_0 (x y : D) : (D.st [x, y]).f 0 = x := rfl
theorem st_1 (x y : D) : (D.st [x, y]).f 1 = y := rfl
theorem split_not (hN : 16777217 ≤ N) {a p : D} (hs : sz p ≤ 16777215) (h : (p.f 0).n ≠ 6) : split_ N a p = some (.st [p, .bool false]) := by
  unfold split_ split
  rw [safe_is hN p hs, obind_s, b_bool, ieq_no h]
  rfl

/-- Turned, and turned back. -/
theorem turned (hN : 16777217 ≤ N) {p c : D} (hp : Pl p) (hs : sz p ≤ 1048576) :
    ∃ x y f g, Apply_ N (.int 5) p c = some (.st [x, .bool f]) ∧ Apply_ N (.int 5) x c = some (.st [y, .bool g]) ∧ ((f = true ∧ g = true ∧ Eqv p y) ∨ (f = false ∧ x = p ∧ y = p)) := by
  have no : Apply_ N (.int 5) p c = some (.st [p, .bool false]) → ∃ x y f g, Apply_ N (.int 5) p c = some (.st [x, .bool f]) ∧ Apply_ N (.int 5) x c = some (.st [y, .bool g]) ∧ ((f = true ∧ g = true ∧ Eqv p y) ∨ (f = false ∧ x = p ∧ y = p)) :=
    fun h => ⟨p, p, false, false, h, h, .inr ⟨rfl, rfl, rfl⟩⟩
  by_cases hF : Fits N c p
  · have hA := Apply_5 hN hp (by omega) hF
    by_cases h4 : (p.f 0).n = 4
    · have P := hF.pat hN
      have hp' := hp
      obtain ⟨hn, hks⟩ := hp
      rename_i f0 f2 f3 f4 f5 nl ks
      have h4' : f0.n = 4 := h4
      rcases bd_kids hN P hp' (by omega) hF.2 with ⟨h, _⟩ | ⟨h, _⟩ | ⟨_, x, y, rfl, hx, hy⟩
      · omega
      · omega
      · have hnl : nl = false := by
          cases nl with
          | false => rfl
          | true => have := hn rfl; cases this
        subst hnl
        have sx := sz_sub (f0 := f0) (f2 := f2) (f3 := f3) (f4 := f4) (f5 := f5) (nl := false) (by simp : x ∈ [x, y])
        have sy := sz_sub (f0 := f0) (f2 := f2) (f3 := f3) (f4 := f4) (f5 := f5) (nl := false) (by simp : y ∈ [x, y])
        have s3 := sz_kids (.st [f0, .sl false [x, y], f2, f3, f4, f5]) 3
        have s5 := sz_kids (.st [f0, .sl false [x, y], f2, f3, f4, f5]) 5
        have s3 : szL f3.es + 1 ≤ sz (.st [f0, .sl false [x, y], f2, f3, f4, f5]) := s3
        have s5 : szL f5.es + 1 ≤ sz (.st [f0, .sl false [x, y], f2, f3, f4, f5]) := s5
        rw [turn_is hN h4', obind_s, st_0, st_1, b_bool] at hA
        have hq : Pl (.st [.int 4, .sl false [y, x], .int f2.n, .sl f3.nl f3.es, .bool f4.b, .sl f5.nl f5.es]) := .mk (fun h => by cases h) (fun k hk => hks k (by simp at hk ⊢; exact hk.symm))
        have hsq : sz (.st [.int 4, .sl false [y, x], .int f2.n, .sl f3.nl f3.es, .bool f4.b, .sl f5.nl f5.es]) ≤ 16777215 := by
          simp only [sz, szL] at *; omega
        have hj := (bd_join hN P hp' (by omega) h4').1 hF.2
        have dx := (bd_is hN P (hks x (by simp)) (by omega) (k := sz x + 1) (by omega)).2
        have dy := (bd_is hN P (hks y (by simp)) (by omega) (k := sz y + 1) (by omega)).2
        have hlen : (bd N c x).es.length = (bd N c y).es.length := by
          rcases dx with e | ⟨b, e, hb⟩
          · rw [e] at hx; cases hx
          · rcases dy with e' | ⟨b', e', hb'⟩
            · rw [e'] at hy; cases hy
            · rw [e, e']; show b.length = b'.length; omega
        have hFq : Fits N c (.st [.int 4, .sl false [y, x], .int f2.n, .sl f3.nl f3.es, .bool f4.b, .sl f5.nl f5.es]) :=
          ⟨hF.1, (bd_join hN P hq hsq rfl).2 ⟨hj.2.1, hj.1, apart_symm hlen hj.2.2⟩⟩
        have hB := Apply_5 hN hq hsq hFq
        rw [turn_is hN (show (D.int 4).n = 4 from rfl), obind_s, st_0, st_1, b_bool] at hB
        exact ⟨_, _, true, true, hA, hB, .inl ⟨rfl, rfl, ⟨h4', rfl, rfl, rfl, rfl, rfl⟩⟩⟩
    · rw [turn_not hN h4] at hA
      exact no hA
  · exact no (Apply_not hN hp (by omega) hF _)

/-- Split, and merged again. -/
theorem splitted (hN : 16777217 ≤ N) {p c : D} (hp : Pl p) (hs : sz p ≤ 1048576) :
    ∃ x y f g, Apply_ N (.int 1) p c = some (.st [x, .bool f]) ∧ Apply_ N (.int 2) x c = some (.st [y, .bool g]) ∧ ((f = true ∧ g = true ∧ sz y ≤ 4194304 ∧ ((p.f 2).n = 0 → (p.f 3).es = [] → (p.f 4).b = false → Eqv y p)) ∨ (f = false ∧ x = p)) := by
  have no : Apply_ N (.int 1) p c = some (.st [p, .bool false]) → ∃ x y f g, Apply_ N (.int 1) p c = some (.st [x, .bool f]) ∧ Apply_ N (.int 2) x c = some (.st [y, .bool g]) ∧ ((f = true ∧ g = true ∧ sz y ≤ 4194304 ∧ ((p.f 2).n = 0 → (p.f 3).es = [] → (p.f 4).b = false → Eqv y p)) ∨ (f = false ∧ x = p)) := fun h => by
    have : ∃ y g, Apply_ N (.int 2) p c = some (.st [y, .bool g]) := by
      by_cases hF : Fits N c p
      · have hA := Apply_2 hN hp (by omega) hF
        rcases merge_is hN (a := .st [c]) (hF.pat hN) hp (by omega) hF.2 with ⟨_, g⟩ | ⟨x, y, z, _, _, _, _, g⟩
        · rw [g] at hA; exact ⟨_, _, hA⟩
        · rw [g] at hA; exact ⟨_, _, hA⟩
      · exact ⟨_, _, Apply_not hN hp (by omega) hF _⟩
    obtain ⟨y, g, hy⟩ := this
    exact ⟨p, y, false, g, h, hy, .inr ⟨rfl, rfl⟩⟩
  by_cases hF : Fits N c p
  · have hA := Apply_1 hN hp (by omega) hF
    by_cases h6 : (p.f 0).n = 6
    · have P := hF.pat hN
      have hp' := hp
      obtain ⟨hn, hks⟩ := hp
      rename_i f0 f2 f3 f4 f5 nl ks
      have h6' : f0.n = 6 := h6
      rcases bd_kids hN P hp' (by omega) hF.2 with ⟨h, _⟩ | ⟨_, x, rfl, hx⟩ | ⟨h, _⟩
      · omega
      · rcases split_is hN (a := .st [c]) (p := .st [f0, .sl nl [x], f2, f3, f4, f5]) (by omega) (x := x) rfl with ⟨_, g⟩ | ⟨⟨_, hall⟩, t, r, htr, g⟩
        · rw [g] at hA; exact no hA
        · rw [g, obind_s, st_0, st_1, b_bool] at hA
          have htr : f5.es = t :: r := htr
          have hall : f5.es.all (sure N) = true := hall
          rw [htr, List.all_cons, Bool.and_eq_true] at hall
          have sx := sz_sub (f0 := f0) (f2 := f2) (f3 := f3) (f4 := f4) (f5 := f5) (nl := nl) (List.mem_singleton.2 rfl : x ∈ [x])
          have s5 : szL f5.es + 1 ≤ sz (.st [f0, .sl nl [x], f2, f3, f4, f5]) := sz_kids (.st [f0, .sl nl [x], f2, f3, f4, f5]) 5
          rw [htr] at s5
          simp only [szL] at s5
          have hi : Pl (.st [.int 6, .sl false [x], .int 0, .sl true [], .bool false, .sl f5.nl r]) := .mk (fun h => by cases h) (fun k hk => hks k hk)
          have hq : Pl (.st [.int 6, .sl false [.st [.int 6, .sl false [x], .int 0, .sl true [], .bool false, .sl f5.nl r]], .int 0, .sl true [], .bool false, .sl false [t]]) := .mk (fun h => by cases h) (fun k hk => by rw [List.mem_singleton.1 hk]; exact hi)
          have hsi : sz (.st [.int 6, .sl false [x], .int 0, .sl true [], .bool false, .sl f5.nl r]) ≤ 4194320 := by simp only [sz, szL] at *; omega
          have hsq : sz (.st [.int 6, .sl false [.st [.int 6, .sl false [x], .int 0, .sl true [], .bool false, .sl f5.nl r]], .int 0, .sl true [], .bool false, .sl false [t]]) ≤ 8388607 := by simp only [sz, szL] at *; omega
          have b1 := bd_filter hN P hp' (by omega) h6'
          have hbind : (bd N c x).nl = false ∧ f5.es.all (bnds N (bd N c x).es) = true := by
            by_cases h : (bd N c x).nl = false ∧ f5.es.all (bnds N (bd N c x).es) = true
            · exact h
            · rw [if_neg h] at b1
              have := hF.2
              rw [b1] at this; cases this
          have ha := hbind.2
          rw [htr, List.all_cons, Bool.and_eq_true] at ha
          have b2 := bd_filter hN P hi (by omega) rfl
          rw [if_pos ⟨hbind.1, by rw [es_sl]; exact ha.2⟩] at b2
          have b3 := bd_filter hN P hq (by omega) rfl
          rw [b2, if_pos ⟨hbind.1, by rw [es_sl, List.all_cons, Bool.and_eq_true]; exact ⟨ha.1, rfl⟩⟩] at b3
          have hFq : Fits N c (.st [.int 6, .sl false [.st [.int 6, .sl false [x], .int 0, .sl true [], .bool false, .sl f5.nl r]], .int 0, .sl true [], .bool false, .sl false [t]]) := ⟨hF.1, by rw [b3]; exact hbind.1⟩
          have hB := Apply_2 hN hq (by omega) hFq
          rcases merge_is hN (a := .st [c]) P hq hsq hFq.2 with ⟨h, _⟩ | ⟨x', y', z, e1, e2, _, _, g⟩
          · exact absurd ⟨⟨rfl, by show [t].all (sure N) = true; rw [List.all_cons, Bool.and_eq_true]; exact ⟨hall.1, rfl⟩⟩, _, rfl, rfl, hall.2⟩ h
          · have e1 : [(.st [.int 6, .sl false [x], .int 0, .sl true [], .bool false, .sl f5.nl r] : D)] = [x'] := e1
            cases e1
            have e2 : [x] = [y'] := e2
            cases e2
            rw [g, obind_s, st_0, st_1, b_bool] at hB
            refine ⟨_, _, true, true, hA, hB, .inl ⟨rfl, rfl, ?_, fun z1 z2 z3 => ⟨h6.symm, rfl, z1.symm, z2.symm, z3.symm, htr.symm⟩⟩⟩
            show sz (.st [.int 6, .sl false [x], .int 0, .sl true [], .bool false, .sl z ([t] ++ r)]) ≤ _
            simp only [sz, szL, List.cons_append, List.nil_append] at *
            omega
      · omega
    · rw [split_not hN (by omega) h6] at hA
      exact no hA
  · exact no (Apply_not hN hp (by omega) hF _)

theorem law (hN : 16777217 ≤ N) (hh : head_ N = some (.bool true)) {p c : D} (hp : Pl p) (hs : sz p ≤ 1048576) : RulesTurns_ N p c = some (.bool true) := by
  obtain ⟨v, hv⟩ := Parts_is hN N p (.int 1000) (by omega) (by omega)
  obtain ⟨x, y, f, g, a1, a2, a3⟩ := turned hN (c := c) hp hs
  obtain ⟨s, m, fs, gs, b1, b2, b3⟩ := splitted hN (c := c) hp hs
  have same : SamePlan_ N N p y = some (.bool true) := by
    rcases a3 with ⟨_, _, E⟩ | ⟨_, _, rfl⟩
    · exact SamePlan_is hN N p y E (by omega) (by omega)
    · exact SamePlan_is hN N y y (Eqv.refl y) (by omega) (by omega)
  have selfP : SamePlan_ N N p p = some (.bool true) := SamePlan_is hN N p p (Eqv.refl p) (by omega) (by omega)
  have hpl : ∃ pl, (cnd (ieq (D.n (D.f p 2)) 0) (cnd (ieq (ilen (len (D.es (D.f p 3)))) 0) (some (bno (D.b (D.f p 4)))) (some false)) (some false)) = some pl ∧ (pl = true → (p.f 2).n = 0 ∧ (p.f 3).es = [] ∧ (p.f 4).b = false) := by
    cases h1 : ieq (D.n (D.f p 2)) 0 with
    | false => exact ⟨false, rfl, fun h => by cases h⟩
    | true =>
      cases h2 : ieq (ilen (len (D.es (D.f p 3)))) 0 with
      | false => exact ⟨false, rfl, fun h => by cases h⟩
      | true =>
        refine ⟨_, rfl, fun h => ⟨ieq_is h1, ?_, bno_is h⟩⟩
        have := ieq_is h2
        unfold ilen len at this
        exact List.eq_nil_of_length_eq_zero (by omega)
  obtain ⟨pl, hpl, hpl2⟩ := hpl
  unfold RulesTurns_ RulesTurns
  rw [hh, obind_s, hv, obind_s]
  cases ilt 1000 v.n with
  | true => rfl
  | false =>
    rw [cnd_f, a1, obind_s, st_0, a2, obind_s, st_0, st_1, same, obind_s, b1, obind_s, st_0, b2, obind_s, st_0, st_1, hpl, obind_s]
    simp only [st_1, b_bool, bno_t, cnd_t, cnd_f]
    have hmid : (cnd fs (cnd (bno gs) (some true) (cnd pl (obind (SamePlan_ N N m p) fun (d : D) => some (bno (D.b d))) (some false))) (some false)) = some false := by
      rcases b3 with ⟨rfl, rfl, hm, E⟩ | ⟨rfl, _⟩
      · rw [cnd_t, bno_t, cnd_f]
        cases pl with
        | false => rfl
        | true =>
          obtain ⟨z1, z2, z3⟩ := hpl2 rfl
          rw [cnd_t, SamePlan_is hN N m p (E z1 z2 z3) (by omega) hm]
          rfl
      · rfl
    have hend : (cnd fs (some true) (obind (SamePlan_ N N p s) fun (d : D) => some (D.b d))) = some true := by
      rcases b3 with ⟨rfl, _⟩ | ⟨rfl, rfl⟩
      · rfl
      · rw [cnd_f, selfP]; rfl
    rw [hmid, hend]
    rcases a3 with ⟨rfl, rfl, _⟩ | ⟨rfl, rfl, rfl⟩
    · rfl
    · rw [cnd_f, cnd_f, selfP]; rfl
end Go.Ev.S
