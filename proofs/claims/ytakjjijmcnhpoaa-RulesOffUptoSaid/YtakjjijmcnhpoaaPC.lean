/- The plain laws: kids of plans that bind, what a rule may ask of a plan. The plain laws: each rule answers, with a plan that is no greater. The plain laws: the last rules; a rule applied; the first rule that applies. The plain law of RulesOff. -/
import Derived.Test.YtakjjijmcnhpoaaPB
namespace Go.Ev.S
open Go Go.Ev
set_option linter.unusedVariables false
variable {N : Nat}

theorem Pl.kids {p : D} (hp : Pl p) : ∀ k ∈ (p.f 1).es, Pl k := by
  obtain ⟨_, h⟩ := hp; exact h
theorem Pl.nilK {p : D} (hp : Pl p) (h : (p.f 1).nl = true) : (p.f 1).es = [] := by
  obtain ⟨hn, _⟩ := hp; exact hn h
theorem Pl.size {p : D} (hp : Pl p) : szL (p.f 1).es + szL (p.f 3).es + szL (p.f 5).es + 7 ≤ sz p := by
  obtain ⟨_, _⟩ := hp
  rename_i f0 f2 f3 f4 f5 nl ks _ _
  have h0 := sz_pos f0
  have h2 := sz_pos f2
  have h4 := sz_pos f4
  have h3 := szL_es f3
  have h5 := szL_es f5
  show szL ks + szL f3.es + szL f5.es + 7 ≤ sz (.st [f0, .sl nl ks, f2, f3, f4, f5])
  simp only [sz, szL]
  omega
theorem size_of (o s : Int) (z z3 z5 q : Bool) (ks E T : List D) : sz (.st [.int o, .sl z ks, .int s, .sl z3 E, .bool q, .sl z5 T]) = szL ks + szL E + szL T + 7 := by
  simp only [sz, szL]; omega
theorem Pl.make {o s : Int} {z z3 z5 q : Bool} {ks E T : List D} (hz : z = true → ks = []) (h : ∀ k ∈ ks, Pl k) : Pl (.st [.int o, .sl z ks, .int s, .sl z3 E, .bool q, .sl z5 T]) := .mk hz h

theorem nl_of_cons {p x : D} {l : List D} (hp : Pl p) (h : (p.f 1).es = x :: l) : (p.f 1).nl = false := by
  cases hn : (p.f 1).nl with
  | false => rfl
  | true => have := hp.nilK hn; rw [h] at this; cases this

theorem bd_one (hN : 16777217 ≤ N) {c p : D} (P : Pat c) (hp : Pl p) (hs : sz p ≤ 16777215) (hb : (bd N c p).nl = false) (ho : (p.f 0).n = 2 ∨ (p.f 0).n = 3 ∨ (p.f 0).n = 5 ∨ (p.f 0).n = 6) :
    ∃ x, (p.f 1).es = [x] ∧ Pl x ∧ sz x < sz p ∧ (bd N c x).nl = false ∧ (p.f 1).nl = false := by
  have hp' := hp
  obtain ⟨hn, hks⟩ := hp
  rename_i f0 f2 f3 f4 f5 nl ks
  have ho : f0.n = 2 ∨ f0.n = 3 ∨ f0.n = 5 ∨ f0.n = 6 := ho
  rcases bd_kids hN P hp' hs hb with ⟨h, _⟩ | ⟨_, x, rfl, hx⟩ | ⟨h, _⟩
  · omega
  · exact ⟨x, rfl, hks x (List.mem_singleton.2 rfl), sz_sub (List.mem_singleton.2 rfl), hx, nl_of_cons hp' rfl⟩
  · omega
theorem bd_two (hN : 16777217 ≤ N) {c p : D} (P : Pat c) (hp : Pl p) (hs : sz p ≤ 16777215) (hb : (bd N c p).nl = false) (ho : (p.f 0).n = 4) :
    ∃ x y, (p.f 1).es = [x, y] ∧ Pl x ∧ Pl y ∧ sz x < sz p ∧ sz y < sz p ∧ (bd N c x).nl = false ∧ (bd N c y).nl = false := by
  have hp' := hp
  obtain ⟨hn, hks⟩ := hp
  rename_i f0 f2 f3 f4 f5 nl ks
  have ho : f0.n = 4 := ho
  rcases bd_kids hN P hp' hs hb with ⟨h, _⟩ | ⟨h, _⟩ | ⟨_, x, y, rfl, hx, hy⟩
  · omega
  · omega
  · exact ⟨x, y, rfl, hks x (by simp), hks y (by simp), sz_sub (by simp), sz_sub (by simp), hx, hy⟩
theorem bd_edges (hN : 16777217 ≤ N) {c p : D} (P : Pat c) (hp : Pl p) (hs : sz p ≤ 16777215) (hb : (bd N c p).nl = false) :
    ((p.f 0).n = 5 → ∀ j, j < (p.f 3).es.length → 0 ≤ (at_ (p.f 3).es j).n ∧ (at_ (p.f 3).es j).n < (c.f 1).es.length) ∧
      ((p.f 0).n = 2 ∨ (p.f 0).n = 3 → (p.f 3).es.length = 1 ∧ 0 ≤ (at_ (p.f 3).es 0).n ∧ (at_ (p.f 3).es 0).n < (c.f 1).es.length) := by
  have main : ((p.f 0).n = 2 ∨ (p.f 0).n = 3 ∨ (p.f 0).n = 5) → ∃ X r, kid1 (binds_ N) (edge_ N) (meetB_ N) N (ctx c) p X = some r ∧ Fine c X ∧ r.nl = false := fun ho => by
    obtain ⟨x, hx, px, sx, bx, hnl⟩ := bd_one hN P hp hs hb (by omega)
    obtain ⟨hn, hks⟩ := hp
    rename_i f0 f2 f3 f4 f5 nl ks
    have hx : ks = [x] := hx
    subst hx
    have hp : Pl (.st [f0, .sl nl [x], f2, f3, f4, f5]) := .mk hn hks
    have ho : f0.n = 2 ∨ f0.n = 3 ∨ f0.n = 5 := ho
    have h1 := bd_is hN P hp hs (k := sz (.st [f0, .sl nl [x], f2, f3, f4, f5]) + 1) (by omega)
    have hd := bd_is hN P px (by omega) sx
    rcases bound1_is (Gb := binds_ N) (X := bound_ N (sz (.st [f0, .sl nl [x], f2, f3, f4, f5]))) (Ge := edge_ N) (Gm := meetB_ N) (N := N) P f0 x f2 f3 f4 f5 nl with ⟨h, g⟩ | ⟨h, g⟩
    · omega
    · rw [hd.1, obind_s] at g
      exact ⟨_, _, g.symm.trans h1.1, hd.2, hb⟩
  refine ⟨fun h => ?_, fun h => ?_⟩
  · obtain ⟨X, r, h1, h2, h3⟩ := main (by omega)
    obtain ⟨r', e, _, _, e2, _⟩ := kid1_is hN P p hs h2
    rw [h1] at e; cases e
    exact e2 h h3
  · obtain ⟨X, r, h1, h2, h3⟩ := main (by omega)
    obtain ⟨r', e, _, _, _, e2⟩ := kid1_is hN P p hs h2
    rw [h1] at e; cases e
    exact e2 (by omega) (by omega) h3

theorem slots_l0_is {z : Bool} {l : List D} {k : List D → Option D} (hll : l.length ≤ 16777216) {G : D → Option D} (hG : ∀ x ∈ l, ∃ d, G x = some d ∧ d.es.length ≤ sz x) : ∀ (n i : Nat) (o : List D), i ≤ l.length → l.length - i < n → o.length + szL (l.drop i) ≤ 16777216 →
    ∃ o' : List D, o'.length ≤ o.length + szL (l.drop i) ∧ slots_l0 G N n z l (ilen (len l)) (i : Int) o k = k o'
  | 0, i, o, _, h, _ => by omega
  | n + 1, i, o, hi, h, hs => by
    by_cases e : i = l.length
    · subst e
      exact ⟨o, by omega, by simp only [slots_l0, len_c, ilt_f, cnd_f]⟩
    · have hlt : i < l.length := by omega
      obtain ⟨d, h1, h2⟩ := hG _ (at_mem hlt)
      have e1 := szL_drop hlt
      have hl := szL_len (l.drop i)
      rw [List.length_drop] at hl
      obtain ⟨o', g1, g2⟩ := slots_l0_is hll hG n (i + 1) (o ++ d.es) (by omega) (by omega) (by rw [List.length_append]; omega)
      rw [List.length_append] at g1
      refine ⟨o', by omega, ?_⟩
      simp only [slots_l0, len_c, ilt_t hlt, cnd_t, inb_t hlt, tn_c, h1, obind_s, nadd_c]
      rw [room_in (by omega) (by omega), cnd_t, iadd_1 (by omega), app_c]
      exact g2
theorem slots_is (hN : 16777217 ≤ N) (a : D) (h : szL a.es ≤ 16777215) : ∃ d, slots_ N a = some d ∧ d.es.length ≤ 16777215 := by
  have hl := szL_len a.es
  obtain ⟨o, h1, h2⟩ := slots_l0_is (N := N) (z := a.nl) (l := a.es) (k := fun (o1' : List D) => some (D.sl (empty o1') o1')) (by omega) (G := Slots_ N N) (fun x hx => Slots_is hN N x (by have := szL_mem hx; omega) (by have := szL_mem hx; omega)) N 0 [] (Nat.zero_le _) (by omega) (by simp only [List.length_nil, List.drop_zero]; omega)
  simp only [List.length_nil, List.drop_zero] at h1
  exact ⟨_, h2, by rw [es_sl]; omega⟩

theorem knows_is (hN : 16777217 ≤ N) {c p : D} (hp : Pl p) (hs : sz p ≤ 16777215) (s : D) (hl : s.es.length ≤ 16777215) : ∃ v, knows_ N (.st [c]) p s = some (.bool v) := by
  unfold knows_ knows
  rw [show (D.st [c]).f 0 = c from rfl]
  rcases Bound_is hN (c := c) hp hs with ⟨_, h⟩ | ⟨_, e, he, h⟩
  · rw [h, obind_s, st_0, st_1, n_int, ieq_in rfl, cnd_t, nl_sl, es_sl]
    generalize (bd N c p).es = b
    rcases any_loop (fun n i => knows_l0 (Bound_ N) N n s.nl s.es (ilen (len s.es)) i (D.st [c]) p false b (fun (t4' : Int) => some (D.bool (bno (ile 0 t4')))) (some (D.bool true))) s.es.length
      (fun i => cnd (ilt (D.n (at_ s.es i)) 0) (some true) (cnd (ile (ilen (len b)) (D.n (at_ s.es i))) (some true) (cnd (inb (D.n (at_ s.es i)) (len b)) (some (bno (D.b (at_ b (tn (D.n (at_ s.es i))))))) none)))
      (fun (t4' : Int) => some (D.bool (bno (ile 0 t4')))) (some (D.bool true))
      (fun n i hi => by simp only [knows_l0, len_c, ilt_t hi, cnd_t, inb_t hi, tn_c, iadd_1 (show i < 2 ^ 62 by omega)])
      (fun n => by simp only [knows_l0, len_c, ilt_f, cnd_f])
      (fun i hi => by
        cases h1 : ilt (D.n (at_ s.es i)) 0 with
        | true => exact ⟨_, rfl⟩
        | false =>
          rw [cnd_f]
          cases h2 : ile (ilen (len b)) (D.n (at_ s.es i)) with
          | true => exact ⟨_, rfl⟩
          | false =>
            have := ilt_not h1
            have := ile_not h2
            rw [cnd_f, inb_in (by unfold ilen len at *; omega), cnd_t]
            exact ⟨_, rfl⟩) N 0 (Nat.zero_le _) (by omega) with ⟨_, g⟩ | ⟨j, _, _, _, g⟩
    · exact ⟨_, g⟩
    · exact ⟨_, g⟩
  · rw [h, obind_s, st_1, n_int, ieq_no he, cnd_f]
    exact ⟨_, rfl⟩

theorem touches_is (hN : 16777217 ≤ N) {c p : D} (hp : Pl p) (hs : sz p ≤ 16777215) {e : Int} (he : 0 ≤ e ∧ e < (c.f 1).es.length) (s : Int) : ∃ v, touches_ N (.st [c]) p (.int e) (.int s) = some (.bool v) := by
  unfold touches_ touches
  rw [show (D.st [c]).f 0 = c from rfl]
  simp only [n_int]
  rw [inb_in (by unfold len; omega), cnd_t]
  obtain ⟨v1, h1⟩ := knows_is hN (c := c) hp hs (D.sl false [D.int (D.n (D.f (at_ (c.f 1).es (tn e)) 2))]) (by rw [es_sl]; exact (by decide : 1 ≤ 16777215))
  obtain ⟨v2, h2⟩ := knows_is hN (c := c) hp hs (D.sl false [D.int (D.n (D.f (at_ (c.f 1).es (tn e)) 3))]) (by rw [es_sl]; exact (by decide : 1 ≤ 16777215))
  rw [h1, h2]
  cases ieq s (D.n (D.f (at_ (c.f 1).es (tn e)) 3)) with
  | true =>
    cases bno (ieq (D.n (D.f (at_ (c.f 1).es (tn e)) 2)) s) with
    | true => exact ⟨_, rfl⟩
    | false => exact ⟨_, rfl⟩
  | false =>
    cases ieq s (D.n (D.f (at_ (c.f 1).es (tn e)) 2)) with
    | true => exact ⟨_, rfl⟩
    | false => exact ⟨_, rfl⟩

theorem catI_is (hN : 16777217 ≤ N) (z : Bool) (x y : D) (hx : x.es.length ≤ 16777215) (hy : y.es.length ≤ 16777215) : ∃ b, ConcatI_ N (.sl z [x, y]) = some (.sl b (x.es ++ y.es)) := by
  have e : ConcatI_ N (.sl z [x, y]) = ConcatI_p N z x y := rfl
  rw [e]
  unfold ConcatI_p
  simp only [len_c, ilen_c]
  rw [iadd_in (x := 0) (by omega), iadd_in (by omega), isub_in (by omega), ilt_no (by omega), cnd_f, ilt_no (by omega), cnd_f, cnd_f]
  by_cases h : (0 : Int) < 0 + (x.es.length : Int) + y.es.length - 0
  · rw [ilt_in h, cnd_t, cnd_t, room_in (by unfold tn; omega) (by unfold tn; omega), cnd_t, inc_in (by omega), cnd_t, nadd_c, nadd_c, room_in (by omega) (by omega), cnd_t, room_in (by omega) (by omega), cnd_t]
    refine ⟨false, ?_⟩
    congr 2
    simp [cut, app, List.take_append]
    exact List.take_of_length_le (by omega)
  · have h1 : x.es = [] := List.eq_nil_of_length_eq_zero (by omega)
    have h2 : y.es = [] := List.eq_nil_of_length_eq_zero (by omega)
    rw [ilt_no h, cnd_f, h1, h2]
    exact ⟨_, rfl⟩
theorem clone_is (x : D) (hx : x.es.length ≤ 16777215) : ∃ b l, CloneI_ N x = some (.sl b l) ∧ szL l ≤ szL x.es := by
  unfold CloneI_ CloneI
  cases x.nl with
  | true => exact ⟨_, _, rfl, by simp [szL]⟩
  | false =>
    rw [cnd_f, nadd_c, len_c, room_in (by omega) (by omega)]
    exact ⟨_, _, rfl, Nat.le_refl _⟩

theorem put_size {l : List D} {i : Nat} {c : D} (h : i < l.length) : szL (put l i c) + sz (at_ l i) = szL l + sz c := by
  induction l generalizing i with
  | nil => simp at h
  | cons a l ih =>
    cases i with
    | zero => simp only [put, List.set_cons_zero, szL, at_, List.getD_cons_zero]; omega
    | succ i =>
      have := ih (i := i) (by simpa using h)
      simp only [put, at_, List.set_cons_succ, szL, List.getD_cons_succ] at *
      omega
theorem put_mem {l : List D} {i : Nat} {c k : D} (h : k ∈ put l i c) : k ∈ l ∨ k = c := List.mem_or_eq_of_mem_set h
theorem replaced_good {p c : D} {i : Nat} (hp : Pl p) (hi : i < (p.f 1).es.length) (hs : sz p ≤ 16777215) (hc : Pl c) :
    ∃ q, replaced_ N p (.int (i : Int)) c = some q ∧ Pl q ∧ sz q + sz (at_ (p.f 1).es i) ≤ sz p + sz c := by
  have hl := len_kids p 1
  have hnl : (p.f 1).nl = false := by
    cases hn : (p.f 1).nl with
    | false => rfl
    | true => rw [hp.nilK hn] at hi; simp at hi
  refine ⟨_, replaced_is hnl hi (by omega), .make (fun h => by cases h) (fun k hk => ?_), ?_⟩
  · rcases put_mem hk with h | rfl
    · exact hp.kids k h
    · exact hc
  · rw [size_of]
    have h1 := put_size (c := c) hi
    have h2 := hp.size
    omega
end Go.Ev.S

namespace Go.Ev.S
open Go Go.Ev
set_option linter.unusedVariables false
variable {N : Nat}

/-- The answer of a rule: a plan, no greater, and whether it was applied. -/
def Good (p : D) (r : Option D) : Prop := ∃ x f, r = some (.st [x, .bool f]) ∧ Pl x ∧ sz x ≤ sz p
theorem Good.no {p : D} (hp : Pl p) : Good p (some (.st [p, .bool false])) := ⟨p, false, rfl, hp, Nat.le_refl _⟩
theorem inb_1 (x : D) : inb 0 (len [x]) = true := rfl
theorem inb_2 (x y : D) : inb 0 (len [x, y]) = true := rfl
theorem inb_3 (x y : D) : inb 1 (len [x, y]) = true := rfl
theorem at_1 (x : D) (l : List D) : at_ (x :: l) 0 = x := rfl
theorem at_2 (x y : D) (l : List D) : at_ (x :: y :: l) 1 = y := rfl
theorem filter_is (x t : D) : filter_ N x t = some (.st [.int 6, .sl false [x], .int 0, .sl true [], .bool false, .sl t.nl t.es]) := rfl
theorem filter_pl {x : D} (hx : Pl x) (z : Bool) (l : List D) : Pl (.st [.int 6, .sl false [x], .int 0, .sl true [], .bool false, .sl z l]) := .make (fun h => by cases h) (fun k hk => by rw [List.mem_singleton.1 hk]; exact hx)
theorem filter_size (x : D) (z : Bool) (l : List D) : sz (.st [.int 6, .sl false [x], .int 0, .sl true [], .bool false, .sl z l]) = sz x + szL l + 7 := by rw [size_of]; simp only [szL]; omega

theorem any_1 {x a : Int} (h : ([D.int a].any fun d => decide (x = d.n)) = true) : x = a := by
  rw [List.any_eq_true] at h
  obtain ⟨d, hd, e⟩ := h
  rw [List.mem_singleton.1 hd] at e
  exact of_decide_eq_true e
theorem any_2 {x a b : Int} (h : ([D.int a, D.int b].any fun d => decide (x = d.n)) = true) : x = a ∨ x = b := by
  rw [List.any_eq_true] at h
  obtain ⟨d, hd, e⟩ := h
  have e := of_decide_eq_true e
  rcases List.mem_cons.1 hd with rfl | hd
  · exact .inl e
  · rw [List.mem_singleton.1 hd] at e; exact .inr e
theorem any_3 {x a b c : Int} (h : ([D.int a, D.int b, D.int c].any fun d => decide (x = d.n)) = true) : x = a ∨ x = b ∨ x = c := by
  rw [List.any_eq_true] at h
  obtain ⟨d, hd, e⟩ := h
  have e := of_decide_eq_true e
  rcases List.mem_cons.1 hd with rfl | hd
  · exact .inl e
  · rcases List.mem_cons.1 hd with rfl | hd
    · exact .inr (.inl e)
    · rw [List.mem_singleton.1 hd] at e; exact .inr (.inr e)
theorem replaced_0 {p c x : D} {l : List D} (hp : Pl p) (hx : (p.f 1).es = x :: l) (hs : sz p ≤ 16777215) (hc : Pl c) :
    ∃ q, replaced_ N p (.int 0) c = some q ∧ Pl q ∧ sz q + sz x ≤ sz p + sz c := by
  have h := replaced_good (N := N) (i := 0) hp (by rw [hx]; exact Nat.succ_pos _) hs hc
  rw [hx, at_1] at h
  exact h

theorem merge_good (hN : 16777217 ≤ N) {c p : D} (hp : Pl p) (hs : sz p ≤ 4194304) (hF : Fits N c p) : Good p (merge_ N (.st [c]) p) := by
  have P := hF.pat hN
  rcases merge_is hN (a := .st [c]) P hp (by omega) hF.2 with ⟨_, g⟩ | ⟨x, y, z, hx, hy, _, _, g⟩
  · rw [g]; exact Good.no hp
  · rw [g]
    have px : Pl x := hp.kids x (by rw [hx]; exact List.mem_singleton.2 rfl)
    have py : Pl y := px.kids y (by rw [hy]; exact List.mem_singleton.2 rfl)
    have s1 := hp.size
    have s2 := px.size
    rw [hx] at s1
    rw [hy] at s2
    simp only [szL] at s1 s2
    refine ⟨_, _, rfl, filter_pl py _ _, ?_⟩
    rw [filter_size, szL_app]
    omega

theorem down_good (hN : 16777217 ≤ N) {c p : D} (hp : Pl p) (hs : sz p ≤ 4194304) (hF : Fits N c p) : Good p (down_ N (.st [c]) p) := by
  have P := hF.pat hN
  unfold down_ down
  rw [safe_is hN p (by omega), obind_s, b_bool]
  cases hsafe : (ieq (p.f 0).n 6 && (p.f 5).es.all (sure N)) with
  | false => exact Good.no hp
  | true =>
    have h6 : (p.f 0).n = 6 := by rw [Bool.and_eq_true] at hsafe; exact ieq_is hsafe.1
    obtain ⟨x, hx, px, sx, bx, nlx⟩ := bd_one hN P hp (by omega) hF.2 (by omega)
    have s1 := hp.size
    rw [hx] at s1
    simp only [szL] at s1
    have l5 := len_kids p 5
    rw [hx]
    simp only [bno_t, cnd_f, inb_1, cnd_t, at_1]
    rw [step_is (by omega) x false [.int 2, .int 3, .int 5] (by decide), obind_s, b_bool]
    cases hst : ([D.int 2, D.int 3, D.int 5].any fun d => decide ((x.f 0).n = d.n)) with
    | false => exact Good.no hp
    | true =>
      have hop : (x.f 0).n = 2 ∨ (x.f 0).n = 3 ∨ (x.f 0).n = 5 := any_3 hst
      obtain ⟨y, hy, py, sy, by_, nly⟩ := bd_one hN P px (by omega) bx (by omega)
      obtain ⟨d, hd1, hd2⟩ := slots_is hN (.sl (p.f 5).nl (p.f 5).es) (by rw [es_sl]; omega)
      obtain ⟨v, hv⟩ := knows_is hN (c := c) py (by omega) (.sl d.nl d.es) (by rw [es_sl]; exact hd2)
      rw [hy]
      simp only [bno_t, cnd_f, inb_1, cnd_t, at_1]
      rw [hd1, obind_s, hv, obind_s, b_bool]
      cases v with
      | false => exact Good.no hp
      | true =>
        rw [bno_t, obind_s, cnd_f, filter_is, obind_s, nl_sl, es_sl]
        have pf := filter_pl py (p.f 5).nl (p.f 5).es
        obtain ⟨q, hq, pq, sq⟩ := replaced_0 (N := N) px hy (by omega) pf
        rw [hq, obind_s]
        refine ⟨_, _, rfl, pq, ?_⟩
        rw [filter_size] at sq
        omega

theorem sides_l0_good (hN : 16777217 ≤ N) {c p : D} (hp : Pl p) (hs : sz p ≤ 4194304) {x : D} (hx : (p.f 1).es = [x]) (o2 : D) {z : Bool} {k0 : Bool → D → Option D} {k1 : Option D} (h0 : ∀ q, Pl q → sz q ≤ sz p → Good p (k0 true q)) (h1 : Good p k1) : ∀ (n i : Nat), i ≤ (x.f 1).es.length → (x.f 1).es.length - i < n →
    Good p (sides_l0 (filter_ N) (knows_ N) (replaced_ N) (safe_ N) (slots_ N) (step_ N) N n z (x.f 1).es (ilen (len (x.f 1).es)) (i : Int) (.st [c]) p o2 k0 k1)
  | 0, i, _, h => by omega
  | n + 1, i, hi, h => by
    by_cases e : i = (x.f 1).es.length
    · subst e
      simp only [sides_l0, len_c, ilt_f, cnd_f]
      exact h1
    · have hlt : i < (x.f 1).es.length := by omega
      have px : Pl x := hp.kids x (by rw [hx]; exact List.mem_singleton.2 rfl)
      have s1 := hp.size
      rw [hx] at s1
      simp only [szL] at s1
      have lx := len_kids x 1
      have l5 := len_kids p 5
      have py := px.kids _ (at_mem hlt)
      have sy := sz_kid (at_mem hlt)
      obtain ⟨d, hd1, hd2⟩ := slots_is hN (.sl (p.f 5).nl (p.f 5).es) (by rw [es_sl]; omega)
      obtain ⟨v, hv⟩ := knows_is hN (c := c) py (by omega) (.sl d.nl d.es) (by rw [es_sl]; exact hd2)
      have ih := sides_l0_good hN hp hs hx o2 (c := c) (z := z) h0 h1 n (i + 1) (by omega) (by omega)
      simp only [sides_l0, len_c, ilt_t hlt, cnd_t, inb_t hlt, tn_c, iadd_1 (show i < 2 ^ 62 by omega), hd1, obind_s, hv, b_bool]
      cases v with
      | false => rw [cnd_f]; exact ih
      | true =>
        have pf := filter_pl py (p.f 5).nl (p.f 5).es
        obtain ⟨q, hq, pq, sq⟩ := replaced_good (N := N) px hlt (by omega) pf
        rw [filter_size] at sq
        have e2 := inb_1 x
        unfold len at e2
        rw [cnd_t, hx, e2, cnd_t, filter_is, obind_s, at_1, nl_sl, es_sl, hq, obind_s]
        exact h0 q pq (by omega)

theorem sides_good (hN : 16777217 ≤ N) {c p : D} (hp : Pl p) (hs : sz p ≤ 4194304) (hF : Fits N c p) : Good p (sides_ N (.st [c]) p) := by
  have P := hF.pat hN
  unfold sides_ sides
  rw [safe_is hN p (by omega), obind_s, b_bool]
  cases hsafe : (ieq (p.f 0).n 6 && (p.f 5).es.all (sure N)) with
  | false => exact Good.no hp
  | true =>
    have h6 : (p.f 0).n = 6 := by rw [Bool.and_eq_true] at hsafe; exact ieq_is hsafe.1
    obtain ⟨x, hx, px, sx, bx, nlx⟩ := bd_one hN P hp (by omega) hF.2 (by omega)
    rw [hx]
    simp only [inb_1, cnd_t, at_1]
    rw [step_is (by omega) x false [.int 4] (by decide), obind_s, b_bool, obind_s]
    have lx := len_kids x 1
    cases ([D.int 4].any fun d => decide ((x.f 0).n = d.n)) with
    | false => exact Good.no hp
    | true =>
      rw [cnd_t]
      exact sides_l0_good hN hp hs hx _ (fun q pq sq => ⟨q, true, rfl, pq, sq⟩) (Good.no hp) N 0 (Nat.zero_le _) (by omega)

theorem drop_good (hN : 16777217 ≤ N) {c p : D} (hp : Pl p) (hs : sz p ≤ 4194304) (hF : Fits N c p) : Good p (drop_ N (.st [c]) p) := by
  have P := hF.pat hN
  unfold drop_ drop
  rw [step_is (by omega) p false [.int 4] (by decide), obind_s, b_bool]
  cases hst : ([D.int 4].any fun d => decide ((p.f 0).n = d.n)) with
  | false => exact Good.no hp
  | true =>
    have h4 : (p.f 0).n = 4 := any_1 hst
    obtain ⟨x, y, hk, px, py, sx, sy, _⟩ := bd_two hN P hp (by omega) hF.2 h4
    rw [hk]
    simp only [bno_t, cnd_f, inb_2, inb_3, cnd_t, at_1, at_2]
    rw [step_is (by omega) y false [.int 1] (by decide), obind_s, b_bool]
    cases ([D.int 1].any fun d => decide ((y.f 0).n = d.n)) with
    | false => exact Good.no hp
    | true =>
      obtain ⟨v, hv⟩ := knows_is hN (c := c) px (by omega) (.sl false [.int (y.f 2).n]) (by rw [es_sl]; exact (by decide : 1 ≤ 16777215))
      rw [bno_t, cnd_f, hv, obind_s, b_bool]
      cases v with
      | false => exact Good.no hp
      | true => exact ⟨x, true, rfl, px, by omega⟩

theorem chain_good (hN : 16777217 ≤ N) {c p : D} (hp : Pl p) (hs : sz p ≤ 4194304) (hF : Fits N c p) : Good p (chain_ N (.st [c]) p) := by
  have P := hF.pat hN
  unfold chain_ chain
  rw [step_is (by omega) p false [.int 4] (by decide), obind_s, b_bool]
  cases hst : ([D.int 4].any fun d => decide ((p.f 0).n = d.n)) with
  | false => exact Good.no hp
  | true =>
    have h4 : (p.f 0).n = 4 := any_1 hst
    obtain ⟨x, y, hk, px, py, sx, sy, _, by_⟩ := bd_two hN P hp (by omega) hF.2 h4
    have s1 := hp.size
    rw [hk] at s1
    simp only [szL] at s1
    rw [hk]
    simp only [bno_t, cnd_f, inb_2, inb_3, cnd_t, at_1, at_2]
    rw [step_is (by omega) y false [.int 2, .int 3] (by decide), obind_s, b_bool, obind_s]
    cases hst2 : ([D.int 2, D.int 3].any fun d => decide ((y.f 0).n = d.n)) with
    | false => exact Good.no hp
    | true =>
      have hop : (y.f 0).n = 2 ∨ (y.f 0).n = 3 := any_2 hst2
      obtain ⟨w, hw, pw, sw, _, _⟩ := bd_one hN P py (by omega) by_ (by omega)
      rw [bno_t, cnd_f, hw]
      simp only [inb_1, cnd_t, at_1]
      rw [step_is (by omega) w false [.int 1] (by decide), obind_s, b_bool]
      cases ([D.int 1].any fun d => decide ((w.f 0).n = d.n)) with
      | false => exact Good.no hp
      | true =>
        obtain ⟨v, hv⟩ := knows_is hN (c := c) px (by omega) (.sl false [.int (w.f 2).n]) (by rw [es_sl]; exact (by decide : 1 ≤ 16777215))
        rw [bno_t, cnd_f, hv, obind_s, b_bool, obind_s]
        cases v with
        | false => exact Good.no hp
        | true =>
          obtain ⟨q, hq, pq, sq⟩ := replaced_0 (N := N) py hw (by omega) px
          rw [bno_t, cnd_f, hq, obind_s]
          exact ⟨q, true, rfl, pq, by omega⟩
end Go.Ev.S

namespace Go.Ev.S
open Go Go.Ev
set_option linter.unusedVariables false
variable {N : Nat}

theorem meet_end (hN : 16777217 ≤ N) {c p x : D} (hp : Pl p) (hs : sz p ≤ 4194304) (px : Pl x) (sx : sz x + szL (p.f 3).es + szL (p.f 5).es + 7 ≤ sz p) {y : D} (hy : (x.f 1).es = [y]) (he : (p.f 3).es.length = 1 ∧ 0 ≤ (at_ (p.f 3).es 0).n ∧ (at_ (p.f 3).es 0).n < (c.f 1).es.length) (s : Int) :
    Good p (obind (cnd (inb 0 (len (D.es (D.f x 1)))) (obind (knows_ N (.st [c]) (at_ (D.es (D.f x 1)) 0) (D.sl false [D.int s])) fun (d : D) => cnd (D.b d) (some true) (cnd (inb 0 (len (D.es (D.f x 1)))) (cnd (inb 0 (len (D.es (D.f p 3)))) (obind (touches_ N (.st [c]) (at_ (D.es (D.f x 1)) 0) (D.int (D.n (at_ (D.es (D.f p 3)) 0))) (D.int s)) fun (d : D) => some (bno (D.b d))) none) none)) none) fun (b_2 : Bool) => cnd b_2 (some (D.st [p, D.bool false])) (obind (ConcatI_ N (D.sl false [D.sl (D.nl (D.f x 3)) (D.es (D.f x 3)), D.sl (D.nl (D.f p 3)) (D.es (D.f p 3))])) fun (d : D) => some (D.st [D.st [D.int 5, D.sl (D.nl (D.f x 1)) (D.es (D.f x 1)), D.int s, D.sl (D.nl d) (D.es d), D.bool false, D.sl true []], D.bool true]))) := by
  have s2 := px.size
  have py : Pl y := px.kids y (by rw [hy]; exact List.mem_singleton.2 rfl)
  have lx := len_kids x 3
  have lp := len_kids p 3
  have sy : sz y ≤ sz x := by rw [hy] at s2; simp only [szL] at s2; omega
  obtain ⟨v, hv⟩ := knows_is hN (c := c) py (by omega) (.sl false [.int s]) (by rw [es_sl]; exact (by decide : 1 ≤ 16777215))
  obtain ⟨w, hw⟩ := touches_is hN (c := c) py (by omega) he.2 s
  obtain ⟨z, hz⟩ := catI_is hN false (.sl (x.f 3).nl (x.f 3).es) (.sl (p.f 3).nl (p.f 3).es) (by rw [es_sl]; omega) (by rw [es_sl]; omega)
  have fin : Good p (some (D.st [D.st [D.int 5, D.sl (D.nl (D.f x 1)) (D.es (D.f x 1)), D.int s, D.sl z ((x.f 3).es ++ (p.f 3).es), D.bool false, D.sl true []], D.bool true])) := by
    refine ⟨_, _, rfl, .make px.nilK px.kids, ?_⟩
    rw [size_of, szL_app]
    simp only [szL]
    omega
  have hl : inb 0 (len (p.f 3).es) = true := inb_in (by unfold len; omega)
  have hlx : inb 0 (len (x.f 1).es) = true := by rw [hy]; rfl
  have hyx : at_ (x.f 1).es 0 = y := by rw [hy]; rfl
  rw [hlx, cnd_t, cnd_t, hl, cnd_t, hyx, hv, obind_s, b_bool, hw, obind_s, b_bool, hz, obind_s]
  cases v with
  | true => exact Good.no hp
  | false =>
    cases w with
    | false => exact Good.no hp
    | true => exact fin

theorem meet_good (hN : 16777217 ≤ N) {c p : D} (hp : Pl p) (hs : sz p ≤ 4194304) (hF : Fits N c p) : Good p (meet_ N (.st [c]) p) := by
  have P := hF.pat hN
  unfold meet_ meet
  rw [step_is (by omega) p false [.int 2] (by decide), obind_s, b_bool]
  cases hst : ([D.int 2].any fun d => decide ((p.f 0).n = d.n)) with
  | false => exact Good.no hp
  | true =>
    have h2 : (p.f 0).n = 2 := any_1 hst
    obtain ⟨x, hx, px, sx, bx, nlx⟩ := bd_one hN P hp (by omega) hF.2 (by omega)
    have he := (bd_edges hN P hp (by omega) hF.2).2 (.inl h2)
    have s1 := hp.size
    rw [hx] at s1
    simp only [szL] at s1
    rw [hx]
    simp only [bno_t, cnd_f, inb_1, cnd_t, at_1]
    rw [step_is (by omega) x false [.int 2] (by decide), obind_s, b_bool, obind_s]
    cases hst2 : ([D.int 2].any fun d => decide ((x.f 0).n = d.n)) with
    | false => exact Good.no hp
    | true =>
      have h2x : (x.f 0).n = 2 := any_1 hst2
      obtain ⟨y, hy, py, sy, by_, nly⟩ := bd_one hN P px (by omega) bx (by omega)
      have hex := (bd_edges hN P px (by omega) bx).2 (.inl h2x)
      rw [bno_t, cnd_f, show (D.st [c]).f 0 = c from rfl, inb_in (i := 0) (n := len (x.f 3).es) (by unfold len; omega), cnd_t, inb_in (i := (at_ (x.f 3).es 0).n) (n := len (c.f 1).es) (by unfold len; omega), cnd_t]
      cases (x.f 4).b with
      | true => exact meet_end hN hp hs px (by omega) hy he _
      | false => exact meet_end hN hp hs px (by omega) hy he _

theorem more_good (hN : 16777217 ≤ N) {c p : D} (hp : Pl p) (hs : sz p ≤ 4194304) (hF : Fits N c p) : Good p (more_ N (.st [c]) p) := by
  have P := hF.pat hN
  unfold more_ more
  rw [step_is (by omega) p false [.int 2] (by decide), obind_s, b_bool]
  cases hst : ([D.int 2].any fun d => decide ((p.f 0).n = d.n)) with
  | false => exact Good.no hp
  | true =>
    have h2 : (p.f 0).n = 2 := any_1 hst
    obtain ⟨x, hx, px, sx, bx, nlx⟩ := bd_one hN P hp (by omega) hF.2 (by omega)
    have he := (bd_edges hN P hp (by omega) hF.2).2 (.inl h2)
    have s1 := hp.size
    rw [hx] at s1
    simp only [szL] at s1
    rw [hx]
    simp only [bno_t, cnd_f, inb_1, cnd_t, at_1]
    rw [step_is (by omega) x false [.int 5] (by decide), obind_s, b_bool, obind_s]
    cases hst2 : ([D.int 5].any fun d => decide ((x.f 0).n = d.n)) with
    | false => exact Good.no hp
    | true =>
      have h5x : (x.f 0).n = 5 := any_1 hst2
      obtain ⟨y, hy, py, sy, by_, nly⟩ := bd_one hN P px (by omega) bx (by omega)
      have s2 := px.size
      have lx := len_kids x 3
      have lp := len_kids p 3
      have hlx : inb 0 (len (x.f 1).es) = true := by rw [hy]; rfl
      have hyx : at_ (x.f 1).es 0 = y := by rw [hy]; rfl
      obtain ⟨w, hw⟩ := touches_is hN (c := c) py (by omega) he.2 (x.f 2).n
      obtain ⟨z, hz⟩ := catI_is hN false (.sl (x.f 3).nl (x.f 3).es) (.sl (p.f 3).nl (p.f 3).es) (by rw [es_sl]; omega) (by rw [es_sl]; omega)
      rw [bno_t, cnd_f, hlx, cnd_t, inb_in (i := 0) (n := len (p.f 3).es) (by unfold len; omega), cnd_t, hyx, hw, obind_s, b_bool, hz, obind_s]
      cases w with
      | false => exact Good.no hp
      | true =>
        refine ⟨_, _, rfl, .make px.nilK px.kids, ?_⟩
        rw [size_of, es_sl, es_sl, es_sl, szL_app]
        simp only [szL]
        omega

theorem one_good (hN : 16777217 ≤ N) {c p : D} (hp : Pl p) (hs : sz p ≤ 4194304) (hF : Fits N c p) : Good p (one_ N (.st [c]) p) := by
  have P := hF.pat hN
  unfold one_ one
  rw [step_is (by omega) p false [.int 5] (by decide), obind_s, b_bool]
  cases hst : ([D.int 5].any fun d => decide ((p.f 0).n = d.n)) with
  | false => exact Good.no hp
  | true =>
    have h5 : (p.f 0).n = 5 := any_1 hst
    have he := (bd_edges hN P hp (by omega) hF.2).1 h5
    have s1 := hp.size
    have lp := len_kids p 3
    rw [bno_t, cnd_f, obind_s]
    cases hl : ieq (ilen (len (p.f 3).es)) 1 with
    | false => exact Good.no hp
    | true =>
      have hl := ieq_is hl
      unfold ilen len at hl
      obtain ⟨z, l, h1, h2⟩ := clone_is (N := N) (.sl (p.f 3).nl (p.f 3).es) (by rw [es_sl]; omega)
      rw [es_sl] at h2
      have he0 := he 0 (by omega)
      rw [bno_t, cnd_f, h1, obind_s, show (D.st [c]).f 0 = c from rfl, inb_in (i := 0) (n := len (p.f 3).es) (by unfold len; omega), cnd_t, inb_in (i := (at_ (p.f 3).es 0).n) (n := len (c.f 1).es) (by unfold len; omega), cnd_t]
      refine ⟨_, _, rfl, .make hp.nilK hp.kids, ?_⟩
      rw [size_of, es_sl]
      simp only [szL]
      omega

theorem Good.pass {p : D} {r : Option D} (h : Good p r) : Good p (obind r fun d => some (.st [d.f 0, .bool (d.f 1).b])) := by
  obtain ⟨x, f, rfl, h1, h2⟩ := h
  exact ⟨x, f, rfl, h1, h2⟩
theorem Apply_good (hN : 16777217 ≤ N) {c p : D} (hp : Pl p) (hs : sz p ≤ 4194304) {r : D} (h1 : r.n ≠ 1) (h5 : r.n ≠ 5) : Good p (Apply_ N r p c) := by
  by_cases hF : Fits N c p
  · rcases Bound_is hN (c := c) hp (by omega) with ⟨_, h⟩ | ⟨h, _⟩
    · unfold Apply_ Apply
      rw [h, obind_s, st_1, n_int, ieq_in rfl, bno_t, cnd_f, ieq_no h1, cnd_f, ieq_no h5, cnd_f]
      cases ieq r.n 2 with
      | true => exact (merge_good hN hp hs hF).pass
      | false =>
      rw [cnd_f]
      cases ieq r.n 3 with
      | true => exact (down_good hN hp hs hF).pass
      | false =>
      rw [cnd_f]
      cases ieq r.n 4 with
      | true => exact (sides_good hN hp hs hF).pass
      | false =>
      rw [cnd_f]
      cases ieq r.n 6 with
      | true => exact (drop_good hN hp hs hF).pass
      | false =>
      rw [cnd_f]
      cases ieq r.n 7 with
      | true => exact (chain_good hN hp hs hF).pass
      | false =>
      rw [cnd_f]
      cases ieq r.n 8 with
      | true => exact (meet_good hN hp hs hF).pass
      | false =>
      rw [cnd_f]
      cases ieq r.n 9 with
      | true => exact (more_good hN hp hs hF).pass
      | false =>
      rw [cnd_f]
      cases ieq r.n 10 with
      | true => exact (one_good hN hp hs hF).pass
      | false => exact Good.no hp
    · exact absurd hF h
  · rw [Apply_not hN hp (by omega) hF]
    exact Good.no hp

/-- The rules that a rewriting may use. -/
def Rules (l : List D) : Prop := l.length ≤ 16 ∧ ∀ x ∈ l, x.n ≠ 1 ∧ x.n ≠ 5

theorem first_l0_is (hN : 16777217 ≤ N) {c p : D} (hp : Pl p) (hs : sz p ≤ 4194304) {X : D → D → D → Option D} {l : List D} (hl : Rules l) {z1 z2 : Bool} {m : List D} {o2 : D} {k0 : Bool → D → Option D} {k1 : Option D} : ∀ (n i : Nat), i ≤ l.length → l.length - i < n →
    (∃ q, Pl q ∧ sz q ≤ sz p ∧ first_l0 (Apply_ N) X (replaced_ N) N n z1 m z2 l (ilen (len l)) (i : Int) p c o2 k0 k1 = k0 true q) ∨ first_l0 (Apply_ N) X (replaced_ N) N n z1 m z2 l (ilen (len l)) (i : Int) p c o2 k0 k1 = k1
  | 0, i, _, h => by omega
  | n + 1, i, hi, h => by
    by_cases e : i = l.length
    · subst e
      exact .inr (by simp only [first_l0, len_c, ilt_f, cnd_f])
    · have hlt : i < l.length := by omega
      have h16 := hl.1
      obtain ⟨r1, r5⟩ := hl.2 _ (at_mem hlt)
      obtain ⟨q, f, h1, h2, h3⟩ := Apply_good hN (c := c) hp hs (r := .int (at_ l i).n) r1 r5
      simp only [first_l0, len_c, ilt_t hlt, cnd_t, inb_t hlt, tn_c, iadd_1 (show i < 2 ^ 62 by omega), h1, obind_s, st_0, st_1, b_bool]
      cases f with
      | true => exact .inl ⟨q, h2, h3, rfl⟩
      | false => exact first_l0_is hN hp hs hl n (i + 1) (by omega) (by omega)

theorem first_l1_is {A R : D → D → D → Option D} {X : D → D → D → Option D} {c p : D} {l m : List D} {z2 : Bool} {rz : Bool} (hX : ∀ x ∈ l, Good x (X x c (.sl rz m))) (hl : l.length ≤ 16777215) {o2 : D} {k0 : Int → D → Option D} : ∀ (n i : Nat) (o3 : D), i ≤ l.length → l.length - i < n →
    (∃ (j : Nat) (q : D), j < l.length ∧ Pl q ∧ sz q ≤ sz (at_ l j) ∧ first_l1 A X R N n rz m (-1) z2 l (ilen (len l)) (i : Int) p c o2 o3 k0 = k0 (j : Int) q) ∨ ∃ q, first_l1 A X R N n rz m (-1) z2 l (ilen (len l)) (i : Int) p c o2 o3 k0 = k0 (-1) q
  | 0, i, _, _, h => by omega
  | n + 1, i, o3, hi, h => by
    by_cases e : i = l.length
    · subst e
      exact .inr ⟨o3, by simp only [first_l1, len_c, ilt_f, cnd_f]⟩
    · have hlt : i < l.length := by omega
      obtain ⟨q, f, h1, h2, h3⟩ := hX _ (at_mem hlt)
      simp only [first_l1, len_c, ilt_t hlt, cnd_t, inb_t hlt, tn_c, iadd_1 (show i < 2 ^ 62 by omega), h1, obind_s, st_0, st_1, b_bool]
      cases f with
      | true => exact .inl ⟨i, q, hlt, h2, h3, rfl⟩
      | false => exact first_l1_is hX hl n (i + 1) q (by omega) (by omega)

theorem first_is (hN : 16777217 ≤ N) {c : D} : ∀ (k : Nat) (p : D), Pl p → sz p < k → sz p ≤ 4194304 → ∀ rs : D, Rules rs.es → Good p (first_ N k p c rs)
  | 0, p, _, h, _, _, _ => by omega
  | k + 1, p, hp, h, hs, rs, hr => by
    have e : first_ N (k + 1) p c rs = first (Apply_ N) (first_ N k) (replaced_ N) N p c rs := rfl
    rw [e]
    unfold first
    have h16 := hr.1
    have lp := len_kids p 1
    rcases first_l0_is hN (c := c) hp hs (X := first_ N k) hr (z1 := rs.nl) (z2 := rs.nl) (m := rs.es) (o2 := D.st [D.int 0, D.sl true [], D.int 0, D.sl true [], D.bool false, D.sl true []]) (k0 := fun (t7' : Bool) (o2' : D) => some (D.st [o2', D.bool t7']))
      (k1 := first_l1 (Apply_ N) (first_ N k) (replaced_ N) N N (D.nl rs) (D.es rs) (-1) (D.nl (D.f p 1)) (D.es (D.f p 1)) (ilen (len (D.es (D.f p 1)))) 0 p c (D.st [D.int 0, D.sl true [], D.int 0, D.sl true [], D.bool false, D.sl true []]) p fun (t13' : Int) (o3' : D) => cnd (ilt t13' 0) (some (D.st [p, D.bool false])) (obind (replaced_ N p (D.int t13') o3') fun (d : D) => some (D.st [d, D.bool true]))) N 0 (Nat.zero_le _) (by omega) with ⟨q, h1, h2, g⟩ | g
    · exact ⟨q, true, g, h1, h2⟩
    · rcases first_l1_is (N := N) (A := Apply_ N) (R := replaced_ N) (X := first_ N k) (c := c) (p := p) (l := (p.f 1).es) (m := rs.es) (z2 := (p.f 1).nl) (rz := rs.nl) (fun x hx => first_is hN k x (hp.kids x hx) (by have := sz_kid hx; omega) (by have := sz_kid hx; omega) _ hr) (by omega) (o2 := D.st [D.int 0, D.sl true [], D.int 0, D.sl true [], D.bool false, D.sl true []])
        (k0 := fun (t13' : Int) (o3' : D) => cnd (ilt t13' 0) (some (D.st [p, D.bool false])) (obind (replaced_ N p (D.int t13') o3') fun (d : D) => some (D.st [d, D.bool true]))) N 0 p (Nat.zero_le _) (by omega) with ⟨j, q, hj, pq, sq, g2⟩ | ⟨q, g2⟩
      · have g3 := g.trans g2
        rw [ilt_no (by omega), cnd_f] at g3
        obtain ⟨r, hr1, pr, sr⟩ := replaced_good (N := N) hp hj (by omega) pq
        rw [hr1, obind_s] at g3
        exact ⟨r, true, g3, pr, by omega⟩
      · have g3 := g.trans g2
        rw [ilt_in (by decide), cnd_t] at g3
        exact ⟨p, false, g3, hp, Nat.le_refl _⟩

theorem first_l0_nil {A X R : D → D → D → Option D} {n : Nat} (h : 0 < n) {z1 z2 : Bool} {m : List D} {p c o2 : D} {k0 : Bool → D → Option D} {k1 : Option D} : first_l0 A X R N n z1 m z2 [] (ilen (len ([] : List D))) 0 p c o2 k0 k1 = k1 := by
  cases n with
  | zero => omega
  | succ n => rfl
/-- No rule, no change. -/
theorem first_none (hN : 16777217 ≤ N) {c : D} : ∀ (k : Nat) (p : D), Pl p → sz p < k → sz p ≤ 4194304 → ∀ rs : D, rs.es = [] → first_ N k p c rs = some (.st [p, .bool false])
  | 0, p, _, h, _, _, _ => by omega
  | k + 1, p, hp, h, hs, rs, hr => by
    have e : first_ N (k + 1) p c rs = first (Apply_ N) (first_ N k) (replaced_ N) N p c rs := rfl
    rw [e]
    unfold first
    rw [hr]
    have lp := len_kids p 1
    rw [first_l0_nil (by omega)]
    have main : ∀ (n i : Nat) (o3 o2 : D) (k0 : Int → D → Option D), i ≤ (p.f 1).es.length → (p.f 1).es.length - i < n → ∃ q, first_l1 (Apply_ N) (first_ N k) (replaced_ N) N n rs.nl [] (-1) (p.f 1).nl (p.f 1).es (ilen (len (p.f 1).es)) (i : Int) p c o2 o3 k0 = k0 (-1) q := by
      intro n
      induction n with
      | zero => intro i o3 o2 k0 _ h; omega
      | succ n ih =>
        intro i o3 o2 k0 hi hn
        by_cases e : i = (p.f 1).es.length
        · subst e
          exact ⟨o3, by simp only [first_l1, len_c, ilt_f, cnd_f]⟩
        · have hlt : i < (p.f 1).es.length := by omega
          have sk := sz_kid (at_mem hlt)
          have := first_none hN (c := c) k (at_ (p.f 1).es i) (hp.kids _ (at_mem hlt)) (by omega) (by omega) (.sl rs.nl []) rfl
          simp only [first_l1, len_c, ilt_t hlt, cnd_t, inb_t hlt, tn_c, iadd_1 (show i < 2 ^ 62 by omega), this, obind_s, st_0, st_1, b_bool, cnd_f]
          exact ih (i + 1) _ _ _ (by omega) (by omega)
    obtain ⟨q, g⟩ := main N 0 p (D.st [D.int 0, D.sl true [], D.int 0, D.sl true [], D.bool false, D.sl true []]) (fun (t13' : Int) (o3' : D) => cnd (ilt t13' 0) (some (D.st [p, D.bool false])) (obind (replaced_ N p (D.int t13') o3') fun (d : D) => some (D.st [d, D.bool true]))) (Nat.zero_le _) (by omega)
    exact g.trans rfl
end Go.Ev.S

namespace Go.Ev.S
open Go Go.Ev
set_option linter.unusedVariables false
variable {N : Nat}

theorem ContainsR_is (hN : 16777217 ≤ N) (nl : Bool) (es : List D) (x : D) (h : es.length ≤ 16) : ContainsR_ N (.sl nl es) x = some (.bool (es.any fun d => decide (x.n = d.n))) := by
  unfold ContainsR_ ContainsR
  rw [es_sl, nl_sl]
  rcases any_loop (fun n i => ContainsR_l0 N n nl es x.n (ilen (len es)) i (fun t4' => some (D.bool (ile 0 t4'))) (some (D.bool false))) es.length (fun i => some (ieq x.n (at_ es i).n)) (fun i => some (D.bool (ile 0 i))) (some (D.bool false))
      (fun n i hi => by simp only [ContainsR_l0, ilt_t hi, cnd_t, len_c, inb_t hi, tn_c, obind_s, iadd_1 (show i < 2 ^ 62 by omega)])
      (fun n => by simp only [ContainsR_l0, len_c, ilt_f, cnd_f]) (fun i hi => ⟨_, rfl⟩) N 0 (Nat.zero_le _) (by omega) with ⟨h1, h2⟩ | ⟨j, h1, h2, h3, h4⟩
  · refine h2.trans ?_
    congr 2
    symm
    rw [List.any_eq_false]
    intro d hd
    obtain ⟨i, hi⟩ := List.mem_iff_getElem?.1 hd
    have := h1 i (Nat.zero_le _) (List.getElem?_eq_some_iff.1 hi).1
    simp only [at_, List.getD_eq_getElem?_getD, hi, Option.getD_some, Option.some.injEq, ieq] at this
    simpa using this
  · refine h4.trans ?_
    congr 2
    have hm := at_mem h2
    have e : ile 0 (j : Int) = true := by simp [ile]
    rw [e]
    symm
    rw [List.any_eq_true]
    exact ⟨_, hm, by simpa [ieq] using h3⟩

/-- Which rules a rewriting uses: those that are not off. -/
theorem rules_is (hN : 16777217 ≤ N) {z : Bool} {off : List D} (ho : off.length ≤ 16) {F : D → D → D → Option D} : ∀ (n i : Nat) (o3 : List D), 2 ≤ i → i ≤ 11 → 11 - i < n → o3.length + 2 ≤ i → (∀ x ∈ o3, x.n ≠ 1 ∧ x.n ≠ 5) →
    ∃ o' : List D, Rules o' ∧ ((∀ j : Nat, i ≤ j → j ≤ 10 → off.any (fun d => decide ((j : Int) = d.n)) = true) → o3 = [] → o' = []) ∧ ∀ (a b c : D) (k : List D → Option D), Rewrite_l0 (ContainsR_ N) F N n z off (i : Int) a b c o3 k = k o'
  | 0, i, o3, _, _, h, _, _ => by omega
  | n + 1, i, o3, h2, h11, h, hl, hx => by
    by_cases e : i = 11
    · subst e
      refine ⟨o3, ⟨by omega, hx⟩, fun _ h => h, fun a b c k => ?_⟩
      simp only [Rewrite_l0]
      rw [ile_no (by omega), cnd_f]
    · have hi : ile (i : Int) 10 = true := ile_in (by omega)
      by_cases use : i ≠ 5 ∧ off.any (fun d => decide ((i : Int) = d.n)) = false
      · obtain ⟨o', g1, g2, g3⟩ := rules_is hN (z := z) ho (F := F) n (i + 1) (o3 ++ [.int (i : Int)]) (by omega) (by omega) (by omega) (by rw [List.length_append, List.length_singleton]; omega) (fun x hm => by
          rcases List.mem_append.1 hm with hm | hm
          · exact hx x hm
          · rw [List.mem_singleton.1 hm, n_int]; omega)
        refine ⟨o', g1, fun hall => ?_, fun a b c k => ?_⟩
        · have := hall i (Nat.le_refl _) (by omega)
          rw [use.2] at this; cases this
        · simp only [Rewrite_l0]
          rw [hi, cnd_t, ieq_no (show ¬ (i : Int) = 5 by omega), bno_f, cnd_t, ContainsR_is hN z off _ ho, n_int, use.2, obind_s, b_bool, bno_f, obind_s, cnd_t, nadd_c, len_c, room_in (by omega) (by omega), cnd_t, iadd_1 (by omega), app_c]
          exact g3 a b c k
      · obtain ⟨o', g1, g2, g3⟩ := rules_is hN (z := z) ho (F := F) n (i + 1) o3 (by omega) (by omega) (by omega) (by omega) hx
        refine ⟨o', g1, fun hall h => g2 (fun j j1 j2 => hall j (by omega) j2) h, fun a b c k => ?_⟩
        simp only [Rewrite_l0]
        rw [hi, cnd_t, iadd_1 (by omega)]
        by_cases h5 : i = 5
        · subst h5
          rw [show ieq ((5 : Nat) : Int) 5 = true from rfl, bno_t, cnd_f, obind_s, cnd_f]
          exact g3 a b c k
        · have : off.any (fun d => decide ((i : Int) = d.n)) = true := by
            cases hb : off.any (fun d => decide ((i : Int) = d.n)) with
            | true => rfl
            | false => exact absurd ⟨h5, hb⟩ use
          rw [ieq_no (show ¬ (i : Int) = 5 by omega), bno_f, cnd_t, ContainsR_is hN z off _ ho, n_int, this, obind_s, b_bool, bno_t, obind_s, cnd_f]
          exact g3 a b c k

/-- The steps of a rewriting. -/
theorem steps_is (hN : 16777217 ≤ N) {c : D} {l : List D} (hl : Rules l) {o2 : D} {C : D → D → Option D} {k0 : Int → D → D → Option D} {k1 : D → Option D} : ∀ (n t : Nat) (p : D), Pl p → sz p ≤ 4194304 → t ≤ 200 → 200 - t < n →
    (∃ (t' : Nat) (x : D), t' < 200 ∧ Pl x ∧ sz x ≤ sz p ∧ (∃ y, first_ N N x c (.sl (empty l) l) = some (.st [y, .bool false])) ∧ Rewrite_l1 C (first_ N N) N n (t : Int) p c o2 l k0 k1 = k0 (t' : Int) x x) ∨
      ∃ x : D, Pl x ∧ sz x ≤ sz p ∧ Rewrite_l1 C (first_ N N) N n (t : Int) p c o2 l k0 k1 = k1 x
  | 0, t, p, _, _, _, h => by omega
  | n + 1, t, p, hp, hs, ht, h => by
    by_cases e : t = 200
    · subst e
      refine .inr ⟨p, hp, Nat.le_refl _, ?_⟩
      simp only [Rewrite_l1]
      rw [ilt_no (by omega), cnd_f]
    · obtain ⟨x, f, h1, h2, h3⟩ := first_is hN (c := c) N p hp (by omega) hs (.sl (empty l) l) hl
      simp only [Rewrite_l1]
      rw [ilt_in (by omega), cnd_t, h1, obind_s, st_0, st_1, b_bool]
      cases f with
      | false => exact .inl ⟨t, p, by omega, hp, Nat.le_refl _, ⟨x, h1⟩, rfl⟩
      | true =>
        rw [bno_t, cnd_f, iadd_1 (by omega)]
        rcases steps_is hN hl (o2 := o2) (C := C) (k0 := k0) (k1 := k1) n (t + 1) x h2 (by omega) (by omega) (by omega) with ⟨t', y, g1, g2, g3, g4, g5⟩ | ⟨y, g1, g2, g3⟩
        · exact .inl ⟨t', y, g1, g2, by omega, g4, g5⟩
        · exact .inr ⟨y, g1, by omega, g3⟩

theorem Rewrite_is (hN : 16777217 ≤ N) {c p : D} (hp : Pl p) (hs : sz p ≤ 4194304) (off : D) (ho : off.es.length ≤ 16) :
    ∃ x m, Rewrite_ N p c off = some (.st [x, .int m]) ∧ Pl x ∧ sz x ≤ sz p ∧ 0 ≤ m ∧ m ≤ 200 ∧ (m ≠ 200 → Rewrite_ N x c off = some (.st [x, .int 0])) := by
  obtain ⟨l, hl, _, hrun⟩ := rules_is hN (z := off.nl) ho (F := first_ N N) N 2 [] (Nat.le_refl _) (by omega) (by omega) (by decide) (fun x h => by cases h)
  have e : ∀ q, Rewrite_ N q c off = Rewrite_l1 (ContainsR_ N) (first_ N N) N N ((0 : Nat) : Int) q c (D.st [D.int 0, D.sl true [], D.int 0, D.sl true [], D.bool false, D.sl true []]) l (fun (t7' : Int) (o0' o2' : D) => some (D.st [o2', D.int t7'])) fun (o0' : D) => some (D.st [o0', D.int 200]) := fun q => hrun _ _ _ _
  rcases steps_is hN (c := c) hl (o2 := D.st [D.int 0, D.sl true [], D.int 0, D.sl true [], D.bool false, D.sl true []]) (C := ContainsR_ N) (k0 := fun (t7' : Int) (o0' o2' : D) => some (D.st [o2', D.int t7'])) (k1 := fun (o0' : D) => some (D.st [o0', D.int 200])) N 0 p hp hs (by omega) (by omega) with ⟨t, x, h1, h2, h3, ⟨y, h4⟩, h5⟩ | ⟨x, h1, h2, h3⟩
  · refine ⟨x, t, (e p).trans h5, h2, h3, by omega, by omega, fun _ => ?_⟩
    rw [e]
    obtain ⟨n, hn⟩ : ∃ n, N = n + 1 := ⟨N - 1, by omega⟩
    have step : ∀ n, 0 < n → Rewrite_l1 (ContainsR_ N) (first_ N N) N n ((0 : Nat) : Int) x c (D.st [D.int 0, D.sl true [], D.int 0, D.sl true [], D.bool false, D.sl true []]) l (fun (t7' : Int) (o0' o2' : D) => some (D.st [o2', D.int t7'])) (fun (o0' : D) => some (D.st [o0', D.int 200])) = some (.st [x, .int 0]) := fun n hn => by
      cases n with
      | zero => omega
      | succ n =>
        simp only [Rewrite_l1]
        rw [ilt_in (by decide), cnd_t, h4, obind_s, st_1, b_bool]
        rfl
    exact step N (by omega)
  · exact ⟨x, 200, (e p).trans h3, h1, h2, by decide, by decide, fun h => absurd rfl h⟩

theorem Rewrite_off (hN : 16777217 ≤ N) {c p : D} (hp : Pl p) (hs : sz p ≤ 4194304) (off : D) (ho : off.es.length ≤ 16) (hall : ∀ j : Nat, 2 ≤ j → j ≤ 10 → off.es.any (fun d => decide ((j : Int) = d.n)) = true) :
    Rewrite_ N p c off = some (.st [p, .int 0]) := by
  obtain ⟨l, hl, hnil, hrun⟩ := rules_is hN (z := off.nl) ho (F := first_ N N) N 2 [] (Nat.le_refl _) (by omega) (by omega) (by decide) (fun x h => by cases h)
  have hl0 := hnil hall rfl
  subst hl0
  refine (hrun p c _ _).trans ?_
  have h4 := first_none hN (c := c) N p hp (by omega) hs (.sl (empty []) []) rfl
  have step : ∀ n, 0 < n → Rewrite_l1 (ContainsR_ N) (first_ N N) N n ((0 : Nat) : Int) p c (D.st [D.int 0, D.sl true [], D.int 0, D.sl true [], D.bool false, D.sl true []]) [] (fun (t7' : Int) (o0' o2' : D) => some (D.st [o2', D.int t7'])) (fun (o0' : D) => some (D.st [o0', D.int 200])) = some (.st [p, .int 0]) := fun n hn => by
    cases n with
    | zero => omega
    | succ n =>
      simp only [Rewrite_l1]
      rw [ilt_in (by decide), cnd_t, h4, obind_s, st_1, b_bool]
      rfl
  exact step N (by omega)

theorem offs_is {A : D → D → Option D} {B : D → D → D → Option D} {C : D → D → Option D} {H : Option D} {a b : D} {t : Bool} {k : List D → Option D} : ∀ (n i : Nat) (o : List D), 1 ≤ i → i ≤ 11 → 11 - i < n → o.length + 1 ≤ i → (∀ j : Nat, 2 ≤ j → j < i → o.any (fun d => decide ((j : Int) = d.n)) = true) →
    ∃ o' : List D, o'.length ≤ 10 ∧ (∀ j : Nat, 2 ≤ j → j ≤ 10 → o'.any (fun d => decide ((j : Int) = d.n)) = true) ∧ RulesOff_l0 A B C H N n t (i : Int) a b o k = k o'
  | 0, i, o, _, _, h, _, _ => by omega
  | n + 1, i, o, h1, h11, h, hl, hx => by
    by_cases e : i = 11
    · subst e
      refine ⟨o, by omega, fun j j1 j2 => hx j j1 (by omega), ?_⟩
      simp only [RulesOff_l0]
      rw [ile_no (by omega), cnd_f]
    · obtain ⟨o', g1, g2, g3⟩ := offs_is (A := A) (B := B) (C := C) (H := H) (a := a) (b := b) (t := t) (k := k) n (i + 1) (o ++ [.int (i : Int)]) (by omega) (by omega) (by omega) (by rw [List.length_append, List.length_singleton]; omega) (fun j j1 j2 => by
        rw [List.any_append, Bool.or_eq_true]
        by_cases e : j = i
        · subst e; right; simp [n_int]
        · exact .inl (hx j j1 (by omega)))
      refine ⟨o', g1, g2, ?_⟩
      simp only [RulesOff_l0]
      rw [ile_in (by omega), cnd_t, nadd_c, len_c, room_in (by omega) (by omega), cnd_t, iadd_1 (by omega), app_c]
      exact g3

theorem lawOff (hN : 16777217 ≤ N) (hh : head_ N = some (.bool true)) {p c : D} (hp : Pl p) (hs : sz p ≤ 1048576) : RulesOff_ N p c = some (.bool true) := by
  obtain ⟨v, hv⟩ := Parts_is hN N p (.int 300) (by omega) (by omega)
  unfold RulesOff_ RulesOff
  rw [hh, obind_s, hv, obind_s]
  cases ilt 300 v.n with
  | true => rfl
  | false =>
    rw [cnd_f]
    obtain ⟨o, h1, h2, h3⟩ := offs_is (N := N) (A := Parts_ N N) (B := Rewrite_ N) (C := SamePlan_ N N) (H := some (D.bool true)) (a := p) (b := c) (t := true) (k := fun (o2' : List D) => obind (Rewrite_ N p c (D.sl (empty o2') o2')) fun (d_2 : D) => obind (Rewrite_ N p c (D.sl true [])) fun (d_3 : D) => obind (Rewrite_ N (D.f d_3 0) c (D.sl true [])) fun (d_4 : D) => obind (cnd (bno (ieq (D.n (D.f d_2 1)) 0)) (some true) (obind (SamePlan_ N N p (D.f d_2 0)) fun (d : D) => cnd (bno (D.b d)) (some true) (cnd (ilt (D.n (D.f d_3 1)) 0) (some true) (some (ilt 200 (D.n (D.f d_3 1))))))) fun (b : Bool) => cnd b (some (D.bool false)) (obind (cnd (D.b (D.bool true)) (cnd (ieq (D.n (D.f d_3 1)) 200) (some true) (cnd (ieq (D.n (D.f d_4 1)) 0) (obind (SamePlan_ N N (D.f d_3 0) (D.f d_4 0)) fun (d : D) => some (D.b d)) (some false))) (some false)) fun (b : Bool) => some (D.bool b))) N 1 [] (Nat.le_refl _) (by omega) (by omega) (by decide) (fun j j1 j2 => by omega)
    refine h3.trans ?_
    obtain ⟨x, m, g1, px, sx, g2, g3, g4⟩ := Rewrite_is hN (c := c) hp (by omega) (.sl true []) (by decide)
    obtain ⟨y, m', e1, py, sy, e2, e3, _⟩ := Rewrite_is hN (c := c) px (by omega) (.sl true []) (by decide)
    have selfP : SamePlan_ N N p p = some (.bool true) := SamePlan_is hN N p p (Eqv.refl p) (by omega) (by omega)
    have selfX : SamePlan_ N N x x = some (.bool true) := SamePlan_is hN N x x (Eqv.refl x) (by omega) (by omega)
    rw [Rewrite_off hN hp (by omega) (.sl (empty o) o) (by rw [es_sl]; omega) (by rw [es_sl]; exact h2), obind_s, g1, obind_s, st_0, e1, obind_s, st_0, st_1, n_int, ieq_in rfl, bno_t, cnd_f, selfP, obind_s, b_bool, bno_t, cnd_f, st_1, n_int, ilt_no (by omega), cnd_f, ilt_no (by omega), obind_s, cnd_f, cnd_t]
    by_cases h200 : m = 200
    · rw [ieq_in h200]; rfl
    · have := g4 h200
      rw [e1] at this
      cases this
      rw [ieq_no h200, cnd_f, st_1, n_int, ieq_in rfl, cnd_t, st_0, selfX]
      rfl
end Go.Ev.S
