/- The evaluator E: loops by rounds; what a run of E promises. The evaluator E: what a run promises that changes an argument's elements. What an argument reads, as plain data. -/
import Derived.Test.YtakjjijmcnhpoaaGreatEvL
import Derived.ChangeArms
import Derived.Carry
namespace Go.Ev
open Go

/-! ### Loops by their rounds -/
theorem loopsOf_trans : ∀ {code a x : Code}, a ∈ loopsOf code → x ∈ loopsOf a → x ∈ loopsOf code := by
  intro code
  induction code with
  | seq b c ihb ihc =>
    intro a x h hx
    simp only [loopsOf, List.mem_append] at h ⊢
    exact h.imp (fun h => ihb h hx) (fun h => ihc h hx)
  | cond o b c ihb ihc =>
    intro a x h hx
    simp only [loopsOf, List.mem_append] at h ⊢
    exact h.imp (fun h => ihb h hx) (fun h => ihc h hx)
  | block id b ih => intro a x h hx; simp only [loopsOf] at h ⊢; exact ih h hx
  | loop b ih =>
    intro a x h hx
    simp only [loopsOf, List.mem_cons] at h ⊢
    rcases h with rfl | h
    · exact .inr hx
    · exact .inr (ih h hx)
  | scope b ih => intro a x h hx; simp only [loopsOf] at h ⊢; exact ih h hx
  | _ => intro a x h hx; simp [loopsOf] at h
def nodupB : List Nat → Bool
  | [] => true
  | a :: l => !l.contains a && nodupB l
theorem pickLoop_eq : ∀ {l : List Code} {a : Code}, nodupB (l.map firstReg) = true → a ∈ l → pickLoop (firstReg a) l = a
  | [], a, _, h => by simp at h
  | b :: l, a, hn, h => by
    simp only [List.map_cons, nodupB, Bool.and_eq_true, Bool.not_eq_true'] at hn
    simp only [pickLoop]
    rcases List.mem_cons.1 h with rfl | h
    · simp
    · have hne : firstReg b ≠ firstReg a := fun e => by
        have : (l.map firstReg).contains (firstReg b) = true := by
          rw [List.contains_iff_mem, e]; exact List.mem_map.2 ⟨a, h, rfl⟩
        rw [hn.1] at this; cases this
      rw [if_neg (by simpa using hne)]
      exact pickLoop_eq hn.2 h
def okLoops (P : Program) (f : FuncId) : Bool := nodupB ((loopsOf (bodyOf P f)).map firstReg)

section
variable {P : Program}

theorem oinstL_len (ls : List D) : ∀ (ps : List OPat) (i : Nat), (OPat.instL ls ps i).length = ps.length
  | [], _ => rfl
  | p :: ps, i => by simp [OPat.instL, oinstL_len ls ps]
theorem LP.hndOk (T : TabOk P) (F : FnOk P) (hmix : P.follows .mixedOrders = true) {cf : Cfg} (hS : ∀ s ∈ cf.S, Contract P s) (hL : LoopsOk P cf) {l : LP} (h0 : ∀ (R : Type) (ls : List D) (K : Ex → St → Option R), l.F 0 ls K = none)
    (hstep : ∀ (R : Type) (n : Nat) (ls : List D) (K : Ex → St → Option R), l.F (n + 1) ls K = LP.round P cf l n ls K) (hnd : okLoops P l.fn = true) (n : Nat) {c : Ctx} {a : Code} (ha : a ∈ loopsOf (bodyOf P c.fn)) (hkey : (c.cx, c.fn, firstReg a) = (l.cx, l.fn, l.reg))
    (hb : l.base = c.base) (hf : l.fl = c.fl) (hk : l.depth = c.k) : HndOk P c a (l.hnd n).2 := by
  obtain ⟨cx, fn, base, fl, k⟩ := c
  simp only [Prod.mk.injEq] at hkey
  obtain ⟨h1, h2, h3⟩ := hkey
  simp only at h1 h2 hb hf hk ha
  subst h1; subst h2; subst hb; subst hf; subst hk
  have hpick : pickLoop l.reg (loopsOf (bodyOf P l.fn)) = a := by rw [← h3]; exact pickLoop_eq hnd ha
  have key : ∀ (R : Type) (r : R) (n : Nat) (ls : List D) (K : Ex → St → Option R), l.F n ls K = some r → ∀ (Γ : Env) (w : World) (act : Act) (Q : Exit → Act → World → Prop), Rel P l.fl (l.head.inst ls) Γ w act → l.base ≤ l.head.os.length → l.fl ≤ l.base →
      Post P ⟨l.cx, l.fn, l.base, l.fl, l.depth⟩ Γ w K r Q → Code.rounds P a Q n act w := by
    intro R r n
    induction n with
    | zero => intro ls K h; rw [h0] at h; cases h
    | succ n ih =>
      intro ls K h Γ w act Q hr hbl hfb hQ
      rw [hstep] at h
      unfold LP.round at h
      rw [hpick] at h
      rw [rounds_succ]
      have hlen : (l.head.inst ls).obs.length = l.head.os.length := oinstL_len _ _ _
      refine codeE_sound T F hmix hS hL (callE_sound T F hmix hS hL l.depth) (c := ⟨l.cx, l.fn, l.base, l.fl, l.depth⟩) hfb a (fun x hx => loopsOf_trans ha hx) _ _ h Γ w act _ hr (by rw [hlen]; exact hbl) fun e st' Γ' w' act' hK hr' hb' hs => ?_
      refine exit_then (fun he => ?_) (fun he => ?_)
      · subst he
        simp only at hK
        split at hK
        · rename_i ls' hls
          obtain ⟨Γ2, hr2, hs2, hb2⟩ := hr'.clean (st0 := l.head.inst ls) (by rw [hlen]; exact hbl) hb'
          obtain ⟨hr3, hl3⟩ := hr2.look hls
          exact ih ls' K hK Γ2 w' act' Q hr3 hbl hfb (hQ.step (hs.trans hs2))
        · cases hK
      · obtain ⟨Γ2, hr2, hs2, hb2⟩ := hr'.keep l.keep hbl hb'
        cases e with
        | normal => exact absurd rfl he
        | exit id => exact hQ _ _ Γ2 w' act' hK hr2 hb2 (hs.trans hs2)
        | goto l => exact hQ _ _ Γ2 w' act' hK hr2 hb2 (hs.trans hs2)
        | ret => exact hQ _ _ Γ2 w' act' hK hr2 hb2 (hs.trans hs2)
  refine ⟨n, fun R r ls st K hlook hrun Γ w act Q hr hbl hfb hQ => ?_⟩
  obtain ⟨hr2, hl2⟩ := hr.look hlook
  refine (key R r n ls K hrun Γ w act Q hr2 ?_ hfb hQ)
  have hlen : (l.head.inst ls).obs.length = l.head.os.length := oinstL_len _ _ _
  rw [← hlen, hl2]; assumption
theorem LoopsOk.nil {S : List Spec} {u : Nat} {nj : List (Nat × Nat)} : LoopsOk P ⟨S, [], u, nj⟩ := fun key h hm => by simp at hm
theorem LoopsOk.cons (T : TabOk P) (F : FnOk P) (hmix : P.follows .mixedOrders = true) {S : List Spec} {L : List ((Nat × Nat × Nat) × Hnd)} {u : Nat} {nj : List (Nat × Nat)} (hS : ∀ s ∈ S, Contract P s) (hL : LoopsOk P ⟨S, L, u, nj⟩) {l : LP}
    (h0 : ∀ (R : Type) (ls : List D) (K : Ex → St → Option R), l.F 0 ls K = none) (hstep : ∀ (R : Type) (n : Nat) (ls : List D) (K : Ex → St → Option R), l.F (n + 1) ls K = LP.round P ⟨S, L, u, nj⟩ l n ls K) (hnd : okLoops P l.fn = true) (n : Nat) : LoopsOk P ⟨S, l.hnd n :: L, u, nj⟩ := by
  intro key h hm c a ha hkey hb hf hk
  rcases List.mem_cons.1 hm with e | hm
  · have e1 : key = (l.hnd n).1 := by rw [← e]
    have e2 : h = (l.hnd n).2 := by rw [← e]
    subst e2
    exact LP.hndOk T F hmix hS hL h0 hstep hnd n ha (hkey.trans e1) hb hf hk
  · exact hL key h hm c a ha hkey hb hf hk

/-! ### What a run promises -/
theorem mkArgs_get : ∀ {ps : List TypeId} {ds : List D}, (mkArgs P ps ds).length = min ps.length ds.length ∧ ∀ (i : Nat) a, (mkArgs P ps ds)[i]? = some a → ∃ t d, ps[i]? = some t ∧ ds[i]? = some d ∧ a = mk P t d
  | [], ds => by
    have : mkArgs P [] ds = [] := by cases ds <;> rfl
    rw [this]; exact ⟨by simp, fun i a h => by simp at h⟩
  | t :: ps, [] => ⟨by simp [mkArgs], fun i a h => by simp [mkArgs] at h⟩
  | t :: ps, d :: ds => by
    obtain ⟨h1, h2⟩ := mkArgs_get (ps := ps) (ds := ds)
    refine ⟨by simp [mkArgs, h1], fun i a h => ?_⟩
    cases i with
    | zero => simp [mkArgs] at h; exact ⟨t, d, rfl, rfl, h.symm⟩
    | succ i => exact h2 i a (by simpa [mkArgs] using h)

/-- A result as it is told. -/
theorem finish1_rel (T : TabOk P) {w0 w : World} {Γ : Env} {obs : List Ob} (hm : Mem P w Γ (fun _ => True) obs) (hf : Free 0 Γ obs) (hnew : ∀ o p b, Γ.β o = some p → p.block = some b → w0.heap.size ≤ b ∨ ∃ x, x = o ∧ False) {Fz' : Nat → Prop} (hF : ∀ b, Γ.Fz b → Fz' b) {k : RK} {a : A} {d : D} {v : Value}
    (h : finish1 P obs k a = some d) (hv : VRel P w Γ a v) (hdat : isOwn k = false → a.still = true ∨ ∀ o p b, Γ.β o = some p → p.block = some b → Fz' b) (hown : isOwn k = true → a.still = false → ∀ b, Fz' b → Γ.Fz b) : ResRel P w Fz' w0.heap.size k d v := by
  have own : ∀ {o : Nat} {e : TypeId} {es : List D} {nilable full : Bool}, obs[o]? = some (.arr e es nilable full true) → VRel P w Γ (.own o) v → (∀ b, Fz' b → Γ.Fz b) →
      (nilable = true ∧ es = [] ∧ v = .slice none 0 0) ∨ ((nilable = true → es ≠ []) ∧ OwnRel P w Fz' w0.heap.size e es v) := fun {o e es nilable full} hob hv hFb => by
    have hv := hv.one (by simp) rfl (by simp)
    generalize hvv : v = vv at hv
    cases hv with
    | ownNil hp =>
      obtain ⟨_, h2, h3⟩ := (hm.at (Wk.refl _) hp hob).1
      exact .inl ⟨h2, h3, rfl⟩
    | own hp hc hs hfl =>
      rename_i b n size e2 full2 cap
      obtain ⟨⟨he, hl, hn, _⟩, ⟨c, hcell, hcs, hcl⟩, hct⟩ := hm.at (Wk.refl _) hp hob
      subst he
      refine .inr ⟨fun hni he => hn hni (by rw [← hl, he]; rfl), b, cap, c, by rw [hl], (hnew o _ b hp rfl).resolve_right (by rintro ⟨_, _, h⟩; exact h), hcell, by omega, by omega, fun hfz => hf o _ b _ (Nat.zero_le _) hp rfl hob rfl (hFb b hfz), fun i x hx => ?_⟩
      exact (hct trivial c _ _ hcell i x hx).mono hF (fun _ _ => rfl)
  cases k with
  | dat t =>
    simp only [finish1] at h
    split at h
    · rename_i hc
      simp only [Bool.and_eq_true] at hc
      have hj : a ≠ .junk := by intro e; rw [e] at hc; simp [fits] at hc
      have ht : ∀ vs, a ≠ .tup vs := by intro vs e; rw [e] at hc; simp [fits] at hc
      obtain ⟨hcr, hsh⟩ := hv.cells hj ht
      have hfit := fits_fit hm (Wk.refl _) hc.1 hcr
      have hD : DRel P w Fz' t d v.cells.toList := by
        rcases hdat rfl with hst | hall
        · exact dataOf_rel hm (Wk.refl _) hF hcr hfit h (.inl hst) (fun o p b ho hp hb => absurd ho ((still_reach 60).1 a hst o))
        · exact dataOf_rel hm (Wk.refl _) hF hcr hfit h (.inr fun _ _ _ _ => trivial) (fun o p b _ hp hb => hall o p b hp hb)
      refine ⟨hD, ?_⟩
      obtain ⟨k1, e1, e2, _⟩ := fits_kind T hc.1 hcr
      obtain ⟨k2, e3, e4, _⟩ := mk_kind T (d := d) hc.2
      rw [e1] at e3; cases e3
      have hs : (mk P t d).isS = a.isS := by
        cases h1 : a.isS <;> cases h2 : (mk P t d).isS <;> simp_all
      cases v <;> simp_all [VShape]
    · cases h
  | own e =>
    simp only [finish1] at h
    split at h
    · cases h
      have hv := hv.one (by simp) rfl (by simp)
      cases hv
      exact .inl ⟨rfl, rfl⟩
    · rename_i o
      split at h
      · rename_i e' es nilable full hob
        split at h
        · rename_i he
          have he : e = e' := by simpa using he
          subst he
          cases h
          rcases own hob hv (hown rfl rfl) with ⟨h1, h2, h3⟩ | ⟨h1, h2⟩
          · subst h1; subst h2; exact .inl ⟨rfl, h3⟩
          · refine .inr ⟨?_, h2⟩
            show band_ nilable (empty es) = false
            cases nilable with
            | false => rfl
            | true =>
              have := h1 rfl
              cases es with
              | nil => exact absurd rfl this
              | cons => rfl
        · cases h
      · cases h
    · cases h
  | ownN e =>
    simp only [finish1] at h
    split at h
    · cases h
      have hv := hv.one (by simp) rfl (by simp)
      cases hv
      exact .inl ⟨rfl, rfl⟩
    · rename_i o
      split at h
      · rename_i e' es full hob
        split at h
        · rename_i he
          have he : e = e' := by simpa using he
          subst he
          cases h
          rcases own hob hv (hown rfl rfl) with ⟨h1, h2, h3⟩ | ⟨h1, h2⟩
          · subst h2; exact .inl ⟨rfl, h3⟩
          · exact .inr ⟨h1 rfl, h2⟩
        · cases h
      · cases h
    · cases h
theorem finishL_get {obs : List Ob} : ∀ {rs : List RK} {as : List A} {l : List D}, finishL P obs rs as = some l → as.length = rs.length ∧ l.length = rs.length ∧ ∀ (i : Nat) k a d, rs[i]? = some k → as[i]? = some a → l[i]? = some d → finish1 P obs k a = some d
  | [], [], l, h => by
    simp [finishL] at h; subst h
    exact ⟨rfl, rfl, fun i k a d h => by simp at h⟩
  | [], a :: as, l, h => by simp [finishL] at h
  | k :: rs, [], l, h => by simp [finishL] at h
  | k :: rs, a :: as, l, h => by
    simp only [finishL] at h
    split at h
    · rename_i d l' h1 h2
      cases h
      obtain ⟨g1, g2, g3⟩ := finishL_get h2
      refine ⟨by simp [g1], by simp [g2], fun i k' a' d' e1 e2 e3 => ?_⟩
      cases i with
      | zero => simp at e1 e2 e3; subst e1; subst e2; subst e3; exact h1
      | succ i => exact g3 i k' a' d' (by simpa using e1) (by simpa using e2) (by simpa using e3)
    · cases h

theorem one_filter : ∀ {as : List A} {j : Nat} {b : A}, as[j]? = some b → b.still = false → 1 ≤ (as.filter fun a => !a.still).length
  | [], j, b, h, _ => by simp at h
  | c :: as, 0, b, h, hb => by simp at h; subst h; simp [List.filter_cons, hb]
  | c :: as, j + 1, b, h, hb => by
    have := one_filter (as := as) (j := j) (by simpa using h) hb
    rw [List.filter_cons]; split
    · simp
    · exact this
theorem two_filter : ∀ {as : List A} {i j : Nat} {a b : A}, i < j → as[i]? = some a → as[j]? = some b → a.still = false → b.still = false → 2 ≤ (as.filter fun a => !a.still).length
  | [], i, j, a, b, _, h, _, _, _ => by simp at h
  | c :: as, i, 0, a, b, hlt, _, _, _, _ => by omega
  | c :: as, 0, j + 1, a, b, _, h, h2, ha, hb => by
    simp at h; subst h
    have := one_filter (as := as) (j := j) (by simpa using h2) hb
    simp [List.filter_cons, ha]; omega
  | c :: as, i + 1, j + 1, a, b, hlt, h, h2, ha, hb => by
    have := two_filter (as := as) (i := i) (j := j) (by omega) (by simpa using h) (by simpa using h2) ha hb
    rw [List.filter_cons]; split
    · simp; omega
    · exact this

/-- WHAT A RUN OF E PROMISES. -/
theorem Contract.ofRuns (T : TabOk P) (F : FnOk P) (hmix : P.follows .mixedOrders = true) {f : FuncId} {ps : List TypeId} {rs : List RK} {run : List D → Option D} {wn : Bool}
    (hbody : ∃ fn, P.funcs[f]? = some fn ∧ fn.body.isSome = true) (hrun : ∀ ds d, run ds = some d → ∃ cf k, (∀ s ∈ cf.S, Contract P s) ∧ LoopsOk P cf ∧ runE P cf k f ps rs ds = some d) : Contract P { f := f, ps := ps, rs := rs, wn := wn, run := run } := by
  refine ⟨hbody, fun hwr0 Fz w args ds d hFz hargs hd => ?_, fun i h => (by cases h), fun i h => (by cases h)⟩
  obtain ⟨hl1, hl2, hrel⟩ := hargs
  have hl2 : ps.length = args.size := hl2
  obtain ⟨cf, k, hS, hL, h⟩ := hrun ds d hd
  unfold runE at h
  obtain ⟨hmk1, hmk2⟩ := mkArgs_get (P := P) (ps := ps) (ds := ds)
  obtain ⟨_, hgo⟩ := callE_sound T F hmix hS hL k _ _ _ _ _ _ h
  refine hgo ⟨fun _ => none, Fz⟩ w args ⟨fun o p hp => (by cases hp), fun o o' p p' b hp => (by cases hp), hFz⟩ (fun o p b ob _ hp => (by cases hp)) (Nat.le_refl _) (by rw [hmk1]; omega) (fun i a v ha hv => ?_) _ fun a obs1 Γ' w' v hK hv hm hf hs _ => ?_
  · obtain ⟨t, d, h1, h2, rfl⟩ := hmk2 i a ha
    exact (hrel i t d v h1 h2 hv).vrel
  · have hnew : ∀ o p b, Γ'.β o = some p → p.block = some b → w.heap.size ≤ b := fun o p b hp hb => (hs.new o p b hp hb).resolve_right (by rintro ⟨o', p', h, _⟩; cases h)
    have hnew' : ∀ o p b, Γ'.β o = some p → p.block = some b → w.heap.size ≤ b ∨ ∃ x, x = o ∧ False := fun o p b hp hb => .inl (hnew o p b hp hb)
    have hq : Quiet w w' := ⟨hs.os, hs.tape, hs.output, hs.size, fun b hb => hs.frame b hb fun o p hp => by cases hp⟩
    have hfn : ∀ b, Γ'.Fz b → Fz b ∨ (w.heap.size ≤ b ∧ b < w'.heap.size) := fun b hb => by
      rcases hs.fznew b hb with h | h | ⟨o, p, h, _⟩
      · exact .inl h
      · exact .inr ⟨h, hm.fzlt b hb⟩
      · cases h
    have fin : ∀ Fz', (∀ b, Γ'.Fz b → Fz' b) → (∀ b, Fz' b → Γ'.Fz b ∨ ∃ o p, Γ'.β o = some p ∧ p.block = some b) → ResAll P w' Fz' w.heap.size rs d v → Quiet w w' ∧ ∃ Fz', (∀ b, Fz b → Fz' b) ∧ (∀ b, Fz' b → Fz b ∨ (w.heap.size ≤ b ∧ b < w'.heap.size)) ∧ ResAll P w' Fz' w.heap.size rs d v := fun Fz' h1 h2 h3 =>
      ⟨hq, Fz', fun b hb => h1 b (hs.fz b hb), fun b hb => by
        rcases h2 b hb with h | ⟨o, p, hp, hpb⟩
        · exact hfn b h
        · obtain ⟨_, _, _, g3, _⟩ := hm.ob o p hp
          exact .inr ⟨hnew o p b hp hpb, g3.lt hpb⟩, h3⟩
    let all : Nat → Prop := fun b => Γ'.Fz b ∨ ∃ o p, Γ'.β o = some p ∧ p.block = some b
    have goal : Quiet w w' ∧ ∃ Fz', (∀ b, Fz b → Fz' b) ∧ (∀ b, Fz' b → Fz b ∨ (w.heap.size ≤ b ∧ b < w'.heap.size)) ∧ ResAll P w' Fz' w.heap.size rs d v := by
      unfold finish at hK
      split at hK
      · rename_i k1
        cases hk : isOwn k1 with
        | true => exact fin Γ'.Fz (fun _ h => h) (fun _ h => .inl h) (finish1_rel T hm hf hnew' (fun _ h => h) hK hv (fun h => by rw [hk] at h; cases h) (fun _ _ _ h => h))
        | false => exact fin all (fun _ h => .inl h) (fun _ h => h) (finish1_rel T hm hf hnew' (fun _ h => .inl h) hK hv (fun _ => .inr fun o p b hp hb => .inr ⟨o, p, hp, hb⟩) (fun h => by rw [hk] at h; cases h))
      · rename_i hne
        split at hK
        · rename_i as
          split at hK
          · cases hK
          · rename_i hc
            split at hK
            · rename_i l hl
              cases hK
              obtain ⟨g1, g2, g3⟩ := finishL_get hl
              obtain ⟨vs, rfl, e1, e2⟩ := hv
              have e1' : vs.size = rs.length := by rw [← e1, g1]
              have one : ∀ Fz', (∀ b, Γ'.Fz b → Fz' b) → (∀ (i : Nat) k a, rs[i]? = some k → as[i]? = some a → isOwn k = false → a.still = true ∨ ∀ o p b, Γ'.β o = some p → p.block = some b → Fz' b) →
                  (∀ (i : Nat) k a, rs[i]? = some k → as[i]? = some a → isOwn k = true → a.still = false → ∀ b, Fz' b → Γ'.Fz b) → ResAll P w' Fz' w.heap.size rs (.st l) (.tuple vs) := fun Fz' q1 q2 q3 => by
                unfold ResAll
                split
                · exact absurd rfl (hne _)
                · refine ⟨vs, rfl, e1', fun i k x hk hx => ?_⟩
                  have hi : i < rs.length := (List.getElem?_eq_some_iff.1 hk).1
                  have ha : as[i]? = some (as[i]'(by omega)) := List.getElem?_eq_getElem _
                  have hd : l[i]? = some (l[i]'(by omega)) := List.getElem?_eq_getElem _
                  have hfi : (D.st l).f i = l[i]'(by omega) := by simp [D.f, List.getD_eq_getElem?_getD, hd]
                  rw [hfi]
                  have hv1 := e2 i _ x ha hx
                  have hfin := g3 i k _ _ hk ha hd
                  have hnt : ∀ us, as[i]'(by omega) ≠ .tup us := fun us e => by
                    rw [e] at hfin
                    cases k with
                    | dat t => simp [finish1, fits] at hfin
                    | own e => simp [finish1] at hfin
                    | ownN e => simp [finish1] at hfin
                  exact finish1_rel T hm hf hnew' q1 hfin (.of1 hv1 hnt) (q2 i k _ hk ha) (q3 i k _ hk ha)
              by_cases hB : ∃ (i : Nat) (k : RK) (a : A), rs[i]? = some k ∧ as[i]? = some a ∧ isOwn k = true ∧ a.still = false
              · obtain ⟨i0, k0, a0, b1, b2, b3, b4⟩ := hB
                have hany : rs.any isOwn = true := List.any_eq_true.2 ⟨k0, List.mem_of_getElem? b1, b3⟩
                rw [hany] at hc
                simp only [Bool.true_and, Bool.not_eq_true, Bool.not_eq_false', Bool.and_eq_true, beq_iff_eq, decide_eq_true_eq] at hc
                obtain ⟨hc1, hc2⟩ := hc
                refine fin Γ'.Fz (fun _ h => h) (fun _ h => .inl h) (one Γ'.Fz (fun _ h => h) (fun i k a hk ha ho => .inl ?_) fun _ _ _ _ _ _ _ _ h => h)
                have hii : i ≠ i0 := by rintro rfl; rw [b1] at hk; cases hk; rw [b3] at ho; cases ho
                cases hst : a.still with
                | true => rfl
                | false =>
                  exfalso
                  rcases Nat.lt_or_gt_of_ne hii with hlt | hlt
                  · have := two_filter hlt ha b2 hst b4; omega
                  · have := two_filter hlt b2 ha b4 hst; omega
              · exact fin all (fun _ h => .inl h) (fun _ h => h) (one all (fun _ h => .inl h) (fun _ _ _ _ _ _ => .inr fun o p b hp hb => .inr ⟨o, p, hp, hb⟩) fun i k a h1 h2 h3 h4 => absurd ⟨i, k, a, h1, h2, h3, h4⟩ hB)
            · cases hK
        · cases hK
    exact goal

theorem Contract.ofRun (T : TabOk P) (F : FnOk P) (hmix : P.follows .mixedOrders = true) {cf : Cfg} (hS : ∀ s ∈ cf.S, Contract P s) (hL : LoopsOk P cf) {k : Nat} {f : FuncId} {ps : List TypeId} {rs : List RK} {run : List D → Option D} {wn : Bool}
    (hbody : ∃ fn, P.funcs[f]? = some fn ∧ fn.body.isSome = true) (hrun : ∀ ds d, run ds = some d → runE P cf k f ps rs ds = some d) : Contract P { f := f, ps := ps, rs := rs, wn := wn, run := run } :=
  .ofRuns T F hmix hbody fun ds d h => ⟨cf, k, hS, hL, hrun ds d h⟩
/-- What never tells anything promises anything. -/
theorem Contract.nothing {f : FuncId} {ps : List TypeId} {rs : List RK} {wr : Option Nat} {wn : Bool} {run : List D → Option D} (hbody : ∃ fn, P.funcs[f]? = some fn ∧ fn.body.isSome = true) (hrun : ∀ ds, run ds = Option.none) : Contract P { f := f, ps := ps, rs := rs, wr := wr, wn := wn, run := run } :=
  ⟨hbody, fun _ Fz w args ds d _ _ hd => (by have h2 : run ds = some d := hd; rw [hrun ds] at h2; cases h2), fun i _ Fz w args ds d e b cap c _ _ _ _ _ _ _ hd => (by have h2 : run ds = some d := hd; rw [hrun ds] at h2; cases h2), fun i _ _ Fz w args ds d _ _ _ _ _ _ hd => (by have h2 : run ds = some d := hd; rw [hrun ds] at h2; cases h2)⟩

end
end Go.Ev

namespace Go.Ev
open Go

section
variable {P : Program}

theorem elemT_of {t e : TypeId} (h : ty P t = .slice e) : elemT P t = e := by simp [elemT, h]
theorem Contract.ofRunW (T : TabOk P) (F : FnOk P) (hmix : P.follows .mixedOrders = true) {cf : Cfg} (hS : ∀ s ∈ cf.S, Contract P s) (hL : LoopsOk P cf) {k : Nat} {f : FuncId} {ps : List TypeId} {rs : List RK} {i : Nat} {run : List D → Option D}
    (hbody : ∃ fn, P.funcs[f]? = some fn ∧ fn.body.isSome = true) (hsc : rs.all (RK.scalar P) = true) (hrun : ∀ ds d, run ds = some d → runW P cf k f ps rs i ds = some d) : Contract P { f := f, ps := ps, rs := rs, wr := some i, run := run } := by
  refine ⟨hbody, fun h => (by cases h), fun i' hi' Fz w args ds d e b cap c hFz hl1 hl2 hargs hai ht harr hd => ?_, fun i' _ h => (by cases h)⟩
  cases hi'
  obtain ⟨t, hti, hty⟩ := ht
  have h := hrun ds d hd
  unfold runW at h
  have hti' : ps.getD i 0 = t := by
    have : ps[i]? = some t := hti
    rw [List.getD_eq_getElem?_getD, this]; rfl
  rw [hti', elemT_of hty] at h
  generalize hes : (ds.getD i .bad).es = es at h harr hai
  have hia : i < args.size := (Array.getElem?_eq_some_iff.1 hai).1
  obtain ⟨hmk1, hmk2⟩ := mkArgs_get (P := P) (ps := ps) (ds := ds)
  have hl2 : ps.length = args.size := hl2
  have hmkl : (mkArgs P ps ds).length = args.size := by rw [hmk1]; omega
  obtain ⟨_, hgo⟩ := callE_sound T F hmix hS hL k _ _ _ _ _ _ h
  have hβ : ∀ {o : Nat} {p : Place}, (fun o => if o = 0 then some (Place.arr b es.length c.size e false) else none) o = some p → o = 0 ∧ p = .arr b es.length c.size e false := fun {o p} hp => by
    by_cases h0 : o = 0
    · simp [h0] at hp; exact ⟨h0, hp.symm⟩
    · simp [h0] at hp
  have hfit : es.length * P.cellsOf e ≤ c.size := Nat.le_trans (Nat.mul_le_mul_right _ harr.le) harr.fit
  refine hgo ⟨fun o => if o = 0 then some (.arr b es.length c.size e false) else none, Fz⟩ w args ⟨fun o p hp => ?_, fun o o' p p' b' hp hp' _ _ => ?_, hFz⟩ (fun o p b' ob _ hp hb _ _ => ?_) (Nat.zero_le _) (by rw [List.length_set, hmkl]) (fun j a v ha hv => ?_) _ fun a obs1 Γ' w' v hK hv hm hf hs _ => ?_
  · obtain ⟨rfl, rfl⟩ := hβ hp
    refine ⟨_, rfl, ⟨rfl, rfl, by simp, by simp⟩, ⟨c, harr.blk, rfl, hfit⟩, fun _ c' ty fz hc' => ?_⟩
    rw [harr.blk] at hc'; cases hc'
    exact harr.els
  · exact (hβ hp).1.trans (hβ hp').1.symm
  · obtain ⟨rfl, rfl⟩ := hβ hp
    cases hb
    exact harr.nfz
  · rw [List.getElem?_set] at ha
    split at ha
    · rename_i hij
      subst hij
      split at ha
      · cases ha
        rw [hai] at hv; cases hv
        have h0 : (⟨fun o => if o = 0 then some (.arr b es.length c.size e false) else none, Fz⟩ : Env).β 0 = some (.arr b es.length c.size e false) := by simp
        exact .mk1 (.own h0 harr.le harr.fit (by simp)) rfl (by simp) rfl
      · cases ha
    · rename_i hij
      obtain ⟨t', d', g1, g2, rfl⟩ := hmk2 j a ha
      exact (hargs j t' d' v (fun e => hij e.symm) g1 g2 hv).vrel
  · have hkeep : Γ'.β 0 = some (.arr b es.length c.size e false) := hs.keep 0 _ (by simp) (by simp)
    split at hK
    · rename_i e1 es1 n1 f1 as hhead has
      have h0 : obs1[0]? = some (.arr e1 es1 n1 f1 true) := by rw [← List.head?_eq_getElem?]; exact hhead
      obtain ⟨⟨he1, hlen, hn, _⟩, ⟨c', hcell, hcs, hcl⟩, hct⟩ := hm.at (Wk.refl _) hkeep h0
      subst he1
      have hct := hct trivial c' _ _ hcell
      split at hK
      · rename_i l hl
        cases hK
        obtain ⟨g1, g2, g3⟩ := finishL_get hl
        have hres : ∀ (j : Nat) k x u, rs[j]? = some k → as[j]? = some x → VRel P w' Γ' x u → ResRel P w' Γ'.Fz w.heap.size k ((D.st (l ++ [.sl false es1])).f j) u := fun j k x u hk hx hu => by
          have hj : j < rs.length := (List.getElem?_eq_some_iff.1 hk).1
          have hd : l[j]? = some (l[j]'(by omega)) := List.getElem?_eq_getElem _
          have hfi : (D.st (l ++ [.sl false es1])).f j = l[j]'(by omega) := by
            simp only [D.f, List.getD_eq_getElem?_getD]
            rw [List.getElem?_append_left (by omega), hd]; rfl
          rw [hfi]
          have hko : isOwn k = false := by
            have := List.all_eq_true.1 hsc k (List.mem_of_getElem? hk)
            cases k with
            | dat t => rfl
            | own e => simp [RK.scalar] at this
            | ownN e => simp [RK.scalar] at this
          have := finish1_rel T (w0 := { w with heap := #[] }) hm hf (fun o p b _ _ => .inl (Nat.zero_le _)) (Fz' := fun b => Γ'.Fz b ∨ ∃ o p, Γ'.β o = some p ∧ p.block = some b) (fun b h => .inl h) (g3 j k x _ hk hx hd) hu
            (fun _ => .inr fun o p b hp hb => .inr ⟨o, p, hp, hb⟩) (fun h => by rw [hko] at h; cases h)
          have := scalar_rel (Fz' := Γ'.Fz) (List.all_eq_true.1 hsc k (List.mem_of_getElem? hk)) this
          cases k with
          | dat t => exact this
          | own e => cases hko
          | ownN e => cases hko
        have hfl : (D.st (l ++ [.sl false es1])).f rs.length = .sl false es1 := by
          simp only [D.f, List.getD_eq_getElem?_getD]
          rw [List.getElem?_append_right (by omega), g2]; simp
        refine ⟨⟨hs.os, hs.tape, hs.output, hs.size, fun j hj hne => hs.frame j hj fun o p hp hpb => ?_⟩, Γ'.Fz, hs.fz, fun b' hb' => ?_, ?_, ?_, c', hcs, ?_⟩
        · obtain ⟨rfl, rfl⟩ := hβ hp
          cases hpb
          exact hne rfl
        · rcases hs.fznew b' hb' with h | h | ⟨o, p, hp, hpb⟩
          · exact .inl h
          · exact .inr ⟨h, hm.fzlt b' hb'⟩
          · obtain ⟨rfl, rfl⟩ := hβ hp
            cases hpb
            exact absurd hb' (hf 0 _ b _ (Nat.zero_le _) hkeep rfl h0 rfl)
        · show ResW P w' Γ'.Fz w.heap.size rs _ v
          unfold ResW
          split
          · have : as = [a] := by simpa [resList] using has.symm
            exact hres 0 _ a v rfl (by rw [this]; rfl) hv
          · rename_i hne
            have hsh : a = .tup as := by
              unfold resList at has
              split at has
              · exact absurd rfl (hne _)
              · split at has
                · cases has; rfl
                · cases has
            subst hsh
            obtain ⟨vs, rfl, e1, e2⟩ := hv
            refine ⟨vs, rfl, by rw [← e1, g1], fun j k x hk hx => ?_⟩
            have hj : j < rs.length := (List.getElem?_eq_some_iff.1 hk).1
            have ha : as[j]? = some (as[j]'(by omega)) := List.getElem?_eq_getElem _
            have hd : l[j]? = some (l[j]'(by omega)) := List.getElem?_eq_getElem _
            have hfin := g3 j k _ _ hk ha hd
            have hnt : ∀ us, as[j]'(by omega) ≠ .tup us := fun us e => by
              rw [e] at hfin
              cases k with
              | dat t => simp [finish1, fits] at hfin
              | own e => simp [finish1] at hfin
              | ownN e => simp [finish1] at hfin
            exact hres j k _ x hk ha (.of1 (e2 j _ x ha hx) hnt)
        · show ((D.st (l ++ [.sl false es1])).f rs.length).es.length = _
          rw [hfl]; exact hlen
        · show ArrAt P w' Γ'.Fz e1 ((D.st (l ++ [.sl false es1])).f rs.length).es b cap c'
          rw [hfl]
          refine ⟨hcell, ?_, ?_, hf 0 _ b _ (Nat.zero_le _) hkeep rfl h0 rfl, hct⟩
          · show es1.length ≤ cap
            rw [hlen]; exact harr.le
          · rw [hcs]; exact harr.fit
      · cases hK
    · cases hK

end
end Go.Ev

namespace Go.Ev
open Go

mutual
/-- How many values. -/
def sz : D → Nat
  | .int _ => 1
  | .bool _ => 1
  | .str s => s.length + 1
  | .st fs => szL fs + 1
  | .sl _ es => szL es + 1
  | .bad => 1
def szL : List D → Nat
  | [] => 0
  | d :: l => sz d + szL l
end
mutual
def bulk {H : Type} : DataW H → Nat
  | .lit (.string bytes) => bytes.length + 1
  | .lit _ => 1
  | .nil => 1
  | .ptr d => bulk d + 1
  | .slice elems spare => bulkL elems + bulkL spare + 1
  | .agg parts => bulkL parts + 1
  | .iface _ d => bulk d + 1
  | .map _ => 1
  | .held _ => 1
def bulkL {H : Type} : List (DataW H) → Nat
  | [] => 0
  | d :: r => bulk d + bulkL r
end

/-- Data of their type's form. -/
inductive Can (P : Program) : TypeId → D → Prop
  | int {t k n} (h : P.underlying t = some (.int k)) : Can P t (.int n)
  | bool {t b} (h : P.underlying t = some .bool) : Can P t (.bool b)
  | str {t s} (h : P.underlying t = some .string) : Can P t (.str s)
  | st {t fs l} (h : P.underlying t = some (.struct fs)) (hl : l.length = fs.size) (hx : ∀ (i : Nat) f x, fs[i]? = some f → l[i]? = some x → Can P f.type x) : Can P t (.st l)
  | sl {t e b es} (h : P.underlying t = some (.slice e)) (hb : b = true → es = []) (hx : ∀ x ∈ es, Can P e x) : Can P t (.sl b es)

def closedT (P : Program) (S : List TypeId) : Bool :=
  S.all fun t => decide (t < P.types.size) && match P.underlying t with
    | some (.int _) | some .bool | some .string => true
    | some (.slice e) => S.contains e && P.cellsOf e != 0
    | some (.struct fs) => fs.all fun f => S.contains f.type
    | _ => false
def reachT (P : Program) : Nat → List TypeId → List TypeId
  | 0, S => S
  | n + 1, S => reachT P n (S.foldl (fun acc t => match P.underlying t with
      | some (.slice e) => if acc.contains e then acc else e :: acc
      | some (.struct fs) => fs.foldl (fun acc f => if acc.contains f.type then acc else f.type :: acc) acc
      | _ => acc) S)

theorem layout_cover {P : Program} : ∀ {fs : List Field} {o n : Nat}, layout P o fs = some n → ∀ j, o ≤ j → j < n → ∃ (i : Nat) (f : Field), fs[i]? = some f ∧ f.offset ≤ j ∧ j < f.offset + P.cellsOf f.type
  | [], o, n, h, j, h1, h2 => by simp [layout] at h; omega
  | g :: r, o, n, h, j, h1, h2 => by
    simp only [layout] at h
    split at h
    · rename_i hg
      have hg : g.offset = o := by simpa using hg
      by_cases hj : j < o + P.cellsOf g.type
      · exact ⟨0, g, rfl, by omega, by omega⟩
      · obtain ⟨i, f, e1, e2, e3⟩ := layout_cover h j (by omega) h2
        exact ⟨i + 1, f, by simpa using e1, e2, e3⟩
    · cases h

theorem choose_list {α β : Type} {R : Nat → α → β → Prop} : ∀ {l : List α}, (∀ (i : Nat) x, l[i]? = some x → ∃ y, R i x y) → ∃ ys : List β, ys.length = l.length ∧ ∀ (i : Nat) x y, l[i]? = some x → ys[i]? = some y → R i x y := by
  intro l
  induction l generalizing R with
  | nil => exact fun _ => ⟨[], rfl, fun i x y h => by simp at h⟩
  | cons a l ih =>
    intro h
    obtain ⟨y, hy⟩ := h 0 a rfl
    obtain ⟨ys, h1, h2⟩ := ih (R := fun i x y => R (i + 1) x y) fun i x hx => h (i + 1) x (by simpa using hx)
    refine ⟨y :: ys, by simp [h1], fun i x z hx hz => ?_⟩
    cases i with
    | zero => simp at hx hz; subst hx; subst hz; exact hy
    | succ i => exact h2 i x z (by simpa using hx) (by simpa using hz)
theorem szL_le {H : Type} : ∀ {ds : List D} {xs : List (DataW H)}, ds.length = xs.length → (∀ (i : Nat) d x, ds[i]? = some d → xs[i]? = some x → sz d ≤ bulk x) → szL ds ≤ bulkL xs
  | [], [], _, _ => Nat.le_refl _
  | [], _ :: _, h, _ => by simp at h
  | _ :: _, [], h, _ => by simp at h
  | d :: ds, x :: xs, h, hx => by
    have h1 := hx 0 d x rfl rfl
    have h2 := szL_le (ds := ds) (xs := xs) (by simpa using h) fun i d' x' hd hx' => hx (i + 1) d' x' (by simpa using hd) (by simpa using hx')
    simp only [szL, bulkL]; omega

theorem trod_rel {H : Type} {enc : TypeId × Value → H} {P : Program} (T : TabOk P) {S : List TypeId} (hS : closedT P S = true) {W : World} {held : Bool} : ∀ (fuel : Nat) (t : TypeId) (cs : List Value) (x : DataW H × List MemPlace), t ∈ S →
    DataW.trod enc P W 0 (fun _ => true) held fuel t cs = some x → ∃ d, DRel P W (· < W.heap.size) t d cs ∧ Can P t d ∧ sz d ≤ bulk x.1 := by
  intro fuel
  induction fuel with
  | zero => intro t cs x _ h; simp [DataW.trod] at h
  | succ fuel ih =>
    intro t cs x ht h
    have hc := List.all_eq_true.1 hS t ht
    simp only [Bool.and_eq_true, decide_eq_true_eq] at hc
    obtain ⟨hlt, hc⟩ := hc
    cases hu : P.underlying t with
    | none => rw [hu] at hc; cases hc
    | some u =>
      rw [hu] at hc
      cases u with
      | int k =>
        obtain ⟨n, rfl, rfl, _⟩ := DataW.trod_int hu h
        exact ⟨.int n, .int hu rfl, .int hu, Nat.le_refl _⟩
      | bool =>
        obtain ⟨b, rfl, rfl⟩ := DataW.trod_bool hu h
        exact ⟨.bool b, .bool hu rfl, .bool hu, Nat.le_refl _⟩
      | string =>
        obtain ⟨s, rfl, rfl, _⟩ := DataW.trod_string hu h
        exact ⟨.str s.data.toList, .str hu rfl, .str hu, Nat.le_refl _⟩
      | slice e =>
        simp only [Bool.and_eq_true, List.contains_iff_mem, bne_iff_ne] at hc
        obtain ⟨he, h0⟩ := hc
        rcases DataW.trod_slice hu h with ⟨rfl, rfl⟩ | ⟨a, len, cap, elems, rest, n, hn, rfl, rfl, _, hle, _, hel, hget, hsp, _⟩
        · exact ⟨.sl true [], .nil hu rfl rfl, .sl hu (fun _ => rfl) (fun x h => by simp at h), Nat.le_refl _⟩
        · cases hn
          have one : ∀ {i : Nat} {y}, (W.cells? 0 (a.add (i * P.cellsOf e)) (P.cellsOf e)).bind (DataW.trod enc P W 0 (fun _ => true) held fuel e) = some y →
              ∃ ci, ci.length = P.cellsOf e ∧ (∀ j, j < P.cellsOf e → W.cell? ((a.add (i * P.cellsOf e)).add j) = ci[j]?) ∧ DataW.trod enc P W 0 (fun _ => true) held fuel e ci = some y := fun {i y} hy => by
            obtain ⟨ci, h1, h2⟩ := Option.bind_eq_some_iff.1 hy
            obtain ⟨_, g1, g2⟩ := World.cells?_some h1
            exact ⟨ci, g1, g2, h2⟩
          by_cases hcap : cap = 0
          · subst hcap
            have : len = 0 := by omega
            subst this
            have : elems = [] := List.eq_nil_of_length_eq_zero hel
            subst this
            refine ⟨.sl false [], .slE hu rfl rfl, .sl hu (fun _ => rfl) (fun x h => by simp at h), ?_⟩
            simp only [sz, szL, bulk]; omega
          · -- the address is a plain one
            have haddr : a.spot = none ∧ a.block < W.heap.size := by
              have : ∃ y, (W.cells? 0 (a.add (0 * P.cellsOf e)) (P.cellsOf e)).bind (DataW.trod enc P W 0 (fun _ => true) held fuel e) = some y := by
                by_cases hl0 : len = 0
                · subst hl0
                  obtain ⟨h1, h2⟩ := hsp rfl
                  have := h2 0 (by omega)
                  rw [List.getElem?_eq_getElem (by omega)] at this
                  exact ⟨_, this⟩
                · have := hget 0 (by omega)
                  rw [List.getElem?_eq_getElem (by omega)] at this
                  exact ⟨_, this⟩
              obtain ⟨y, hy⟩ := this
              obtain ⟨ci, g1, g2, _⟩ := one hy
              have := g2 0 (by omega)
              rw [List.getElem?_eq_getElem (by omega)] at this
              unfold World.cell? at this
              have e1 : ((a.add (0 * P.cellsOf e)).add 0).block = a.block := by simp [Addr.add]
              have e2 : ((a.add (0 * P.cellsOf e)).add 0).spot = a.spot := by simp [Addr.add]
              rw [e1, e2] at this
              split at this
              · rename_i c ty fz hh
                split at this
                · cases this
                · rename_i hs
                  exact ⟨by simpa using hs, (Array.getElem?_eq_some_iff.1 hh).1⟩
              · cases this
            obtain ⟨ablk, aoff, aspot⟩ := a
            obtain ⟨hspot, hblk⟩ := haddr
            simp only at hspot hblk
            subst hspot
            have each : ∀ (i : Nat) y, elems[i]? = some y → ∃ p : D × List Value, DRel P W (· < W.heap.size) e p.1 p.2 ∧ Can P e p.1 ∧ sz p.1 ≤ bulk y.1 ∧ p.2.length = P.cellsOf e ∧ CellsAt W ablk (aoff + i * P.cellsOf e) p.2 := fun i y hy => by
              have hi : i < len := by rw [← hel]; exact (List.getElem?_eq_some_iff.1 hy).1
              obtain ⟨ci, g1, g2, g3⟩ := one ((hget i hi).trans hy)
              obtain ⟨d, d1, d2, d3⟩ := ih e ci y he g3
              refine ⟨(d, ci), d1, d2, d3, g1, fun j v hv => ?_⟩
              have hj : j < P.cellsOf e := by rw [← g1]; exact (List.getElem?_eq_some_iff.1 hv).1
              have := g2 j hj
              rw [hv] at this
              rw [← this, Addr.add_mid, Addr.add_mid]
            obtain ⟨ps, p1, p2⟩ := choose_list each
            have hpl : ps.length = len := by rw [p1, hel]
            refine ⟨.sl false (ps.map (·.1)), .sl hu rfl hblk (by simp [D.es, hpl]) hle (fun i => (ps.getD i (.bad, [])).2) (fun i hi => ?_) (fun i d hd => ?_), .sl hu (fun h => by cases h) fun d hd => ?_, ?_⟩
            · have hi' : i < elems.length := by omega
              have hp := p2 i elems[i] ps[i] (List.getElem?_eq_getElem hi') (List.getElem?_eq_getElem (by omega))
              have e1 : ps.getD i (.bad, []) = ps[i] := by simp [List.getD_eq_getElem?_getD, List.getElem?_eq_getElem (show i < ps.length by omega)]
              rw [e1]
              exact ⟨hp.2.2.2.1, hp.2.2.2.2⟩
            · simp only [D.es, List.getElem?_map, Option.map_eq_some_iff] at hd
              obtain ⟨q, hq, rfl⟩ := hd
              have hi : i < ps.length := (List.getElem?_eq_some_iff.1 hq).1
              have hp := p2 i elems[i] q (List.getElem?_eq_getElem (by omega)) hq
              have e1 : ps.getD i (.bad, []) = q := by simp [List.getD_eq_getElem?_getD, hq]
              rw [e1]
              exact hp.1
            · obtain ⟨q, hq, rfl⟩ := List.mem_map.1 hd
              obtain ⟨i, hi⟩ := List.mem_iff_getElem?.1 hq
              have hil : i < ps.length := (List.getElem?_eq_some_iff.1 hi).1
              exact (p2 i elems[i] q (List.getElem?_eq_getElem (by omega)) hi).2.1
            · have : szL (ps.map (·.1)) ≤ bulkL (elems.map (·.1)) := szL_le (by simp [p1]) fun i d y hd hy => by
                simp only [List.getElem?_map, Option.map_eq_some_iff] at hd hy
                obtain ⟨q, hq, rfl⟩ := hd
                obtain ⟨z, hz, rfl⟩ := hy
                exact (p2 i z q hz hq).2.2.1
              simp only [sz, bulk]; omega
      | struct fs =>
        obtain ⟨xs, n, hn, rfl, hcl, hxl, hget⟩ := DataW.trod_struct hu h
        cases hn
        have hcf : ∀ f ∈ fs, f.type ∈ S := fun f hf => by
          have := (Array.all_eq_true_iff_forall_mem.1 hc) f hf
          simpa using this
        have each : ∀ (i : Nat) f, fs.toList[i]? = some f → ∃ d, DRel P W (· < W.heap.size) f.type d ((cs.drop f.offset).take (P.cellsOf f.type)) ∧ Can P f.type d ∧ ∀ y, xs[i]? = some y → sz d ≤ bulk y.1 := fun i f hf => by
          have hf' : fs[i]? = some f := by simpa using hf
          have hi : i < fs.size := (Array.getElem?_eq_some_iff.1 hf').1
          have hx := hget i f hf'
          rw [List.getElem?_eq_getElem (by omega)] at hx
          obtain ⟨d, d1, d2, d3⟩ := ih f.type _ _ (hcf f (Array.mem_of_getElem? hf')) hx
          exact ⟨d, d1, d2, fun y hy => by rw [List.getElem?_eq_getElem (by omega)] at hy; cases hy; exact d3⟩
        obtain ⟨ds, p1, p2⟩ := choose_list each
        have hdl : ds.length = fs.size := by rw [p1]; simp
        have hlay := T.lay hlt hu
        have hdi : ∀ (i : Nat) f, fs[i]? = some f → ∃ d, ds[i]? = some d ∧ (D.st ds).f i = d ∧ DRel P W (· < W.heap.size) f.type d ((cs.drop f.offset).take (P.cellsOf f.type)) ∧ Can P f.type d ∧ ∀ y, xs[i]? = some y → sz d ≤ bulk y.1 := fun i f hf => by
          have hi : i < ds.length := by rw [hdl]; exact (Array.getElem?_eq_some_iff.1 hf).1
          have hd : ds[i]? = some ds[i] := List.getElem?_eq_getElem hi
          exact ⟨ds[i], hd, by simp [D.f, List.getD_eq_getElem?_getD, hd], p2 i f ds[i] (by simpa using hf) hd⟩
        refine ⟨.st ds, .st hu hcl (fun v hv => ?_) (fun i f hf => ?_) (fun i f hf => ?_), .st hu hdl fun i f d hf hd => ?_, ?_⟩
        · obtain ⟨j, hj⟩ := List.mem_iff_getElem?.1 hv
          have hjl := (List.getElem?_eq_some_iff.1 hj).1
          obtain ⟨i, f, hf, h1, h2⟩ := layout_cover hlay j (Nat.zero_le _) (by rw [← hcl]; exact hjl)
          obtain ⟨d, _, _, g2, _⟩ := hdi i f (by simpa using hf)
          refine g2.oneC v (List.mem_iff_getElem?.2 ⟨j - f.offset, ?_⟩)
          rw [List.getElem?_take, if_pos (by omega), List.getElem?_drop, show f.offset + (j - f.offset) = j by omega]
          exact hj
        · have := layout_get hlay (i := i) (f := f) (by simpa using hf)
          simp; omega
        · obtain ⟨d, _, e, g2, _⟩ := hdi i f hf
          rw [e]; exact g2
        · obtain ⟨d', e1, _, _, g3, _⟩ := hdi i f hf
          rw [hd] at e1; cases e1
          exact g3
        · have : szL ds ≤ bulkL (xs.map (·.1)) := szL_le (by simp [hxl, hdl]) fun i d y hd hy => by
            simp only [List.getElem?_map, Option.map_eq_some_iff] at hy
            obtain ⟨z, hz, rfl⟩ := hy
            have hi : i < fs.size := by rw [← hdl]; exact (List.getElem?_eq_some_iff.1 hd).1
            obtain ⟨d', e1, _, _, _, g4⟩ := hdi i fs[i] (by simp [hi])
            rw [hd] at e1; cases e1
            exact g4 z hz
          simp only [sz, bulk]; omega
      | _ => cases hc

/-- A struct that came in as an argument. -/
theorem arg_struct {H : Type} {enc : TypeId × Value → H} {P : Program} (T : TabOk P) {S : List TypeId} (hS : closedT P S = true) {W : World} {held : Bool} {t : TypeId} (ht : t ∈ S) {fs : Array Field} (hu : P.underlying t = some (.struct fs)) {base : Nat} {v : Value} {x : DataW H} {ps : List MemPlace}
    (h : DataW.Trod enc P W 0 (fun _ => true) held t v x ps) (hok : Value.okWide P W .any base t v) : ∃ d, ArgRel P W (· < W.heap.size) t d v ∧ Can P t d ∧ sz d ≤ bulk x := by
  obtain ⟨fuel, h⟩ := h
  obtain ⟨d, d1, d2, d3⟩ := trod_rel T hS fuel t _ _ ht h
  refine ⟨d, ⟨d1, ?_⟩, d2, d3⟩
  unfold Value.okWide at hok
  rw [hu] at hok
  obtain ⟨cs, rfl, _, _⟩ := hok
  have hc := List.all_eq_true.1 hS t ht
  simp only [Bool.and_eq_true, decide_eq_true_eq] at hc
  show (mk P t d).isS = true
  have hty : ty P t = .struct (fs.toList.map fun f => (f.type, f.offset)) := by
    unfold ty tyOf
    rw [hu]
    have hlt := hc.1
    have : Nat.ble (t + 1) P.types.size = true := Nat.ble_eq_true_of_le hlt
    rw [this]
  simp [mk, hty, A.isS]
end Go.Ev
