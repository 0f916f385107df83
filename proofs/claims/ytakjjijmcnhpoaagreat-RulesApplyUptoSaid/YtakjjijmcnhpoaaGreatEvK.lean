/- The evaluator E: calls of summaries that change an argument's elements. The evaluator E: one operation, whatever it does; regions. -/
import Derived.Test.YtakjjijmcnhpoaaGreatEvJ
namespace Go.Ev
open Go

section
variable {P : Program} {R : Type} {r : R}

theorem datArgs_get {obs : List Ob} : ∀ {ts : List TypeId} {as : List A} {ds : List D}, datArgs P obs ts as = some ds → ts.length = as.length ∧ ds.length = as.length ∧
    ∀ (j : Nat) t a d, ts[j]? = some t → as[j]? = some a → ds[j]? = some d → fits P obs t a = true ∧ plainT P 20 t = true ∧ dataOf obs 60 a = some d
  | [], [], ds, h => by
    simp [datArgs] at h; subst h
    exact ⟨rfl, rfl, fun j t a d h => by simp at h⟩
  | [], a :: as, ds, h => by simp [datArgs] at h
  | t :: ts, [], ds, h => by simp [datArgs] at h
  | t :: ts, a :: as, ds, h => by
    simp only [datArgs] at h
    split at h
    · rename_i d ds' hc hd hds
      cases h
      simp only [Bool.and_eq_true] at hc
      obtain ⟨h1, h2, h3⟩ := datArgs_get hds
      refine ⟨by simp [h1], by simp [h2], fun j t' a' d' g1 g2 g3 => ?_⟩
      cases j with
      | zero => simp at g1 g2 g3; subst g1; subst g2; subst g3; exact ⟨hc.1, hc.2, hd⟩
      | succ j => exact h3 j t' a' d' (by simpa using g1) (by simpa using g2) (by simpa using g3)
    · cases h
theorem arg_rel (T : TabOk P) {w : World} {Γ : Env} {cv : Nat → Prop} {obs obsS : List Ob} (hm : Mem P w Γ cv obsS) (wk : Wk obs obsS) {t : TypeId} {a : A} {d : D} {v : Value} (hf : fits P obs t a = true) (hp : plainT P 20 t = true) (hd : dataOf obs 60 a = some d)
    (hst : a.still = true) (hva : VRel P w Γ a v) : ArgRel P w Γ.Fz t d v := by
  have hj : a ≠ .junk := by intro e; rw [e] at hf; simp [fits] at hf
  have ht : ∀ vs, a ≠ .tup vs := by intro vs e; rw [e] at hf; simp [fits] at hf
  obtain ⟨hcr, hsh⟩ := hva.cells hj ht
  have hfit := fits_fit hm wk hf hcr
  have hD := dataOf_rel hm wk (Fz' := Γ.Fz) (fun _ h => h) hcr hfit hd (.inl hst) (fun o p b ho hp hb => absurd ho ((still_reach 60).1 a hst o))
  refine ⟨hD, ?_⟩
  obtain ⟨k1, e1, e2, _⟩ := fits_kind T hf hcr
  obtain ⟨k2, e3, e4, _⟩ := mk_kind T (d := d) hp
  rw [e1] at e3; cases e3
  have hs : (mk P t d).isS = a.isS := by
    cases h1 : a.isS <;> cases h2 : (mk P t d).isS <;> simp_all
  cases v <;> simp_all [VShape]

def pack : List A → A | [a] => a | as => .tup as
theorem pack_fun {K : A → List Ob → Option R} : (fun (as : List A) (obs : List Ob) => match as with | [a] => K a obs | as => K (.tup as) obs) = fun as obs => K (pack as) obs := by
  funext as obs
  match as with
  | [a] => rfl
  | [] => rfl
  | _ :: _ :: _ => rfl
theorem resW_rel {g : D} {obs obs1 : List Ob} {rs : List RK} {as : List A} (h : OutList P (fun i => g.f i) obs rs 0 as obs1) (hsc : rs.all (RK.scalar P) = true) {w' : World} {Γ' : Env} {lo : Nat} {v : Value} (hv : ResW P w' Γ'.Fz lo rs g v) :
    obs1 = obs ∧ VRel P w' Γ' (pack as) v := by
  have hown : rs.filter isOwn = [] := by
    rw [List.filter_eq_nil_iff]
    intro k hk
    have := List.all_eq_true.1 hsc k hk
    cases k with
    | dat t => simp [isOwn]
    | own e => simp [RK.scalar] at this
    | ownN e => simp [RK.scalar] at this
  obtain ⟨h1, h2⟩ := h.dats hown (w' := w') (Γ' := Γ') (lo := lo)
  refine ⟨h1, ?_⟩
  have hl := h.len
  unfold ResW at hv
  split at hv
  · rename_i k
    match as, hl with
    | [a], _ =>
      have := h2 (fun _ => v) (fun j r hr => by
        cases j with
        | zero => simp at hr; subst hr; simpa using hv
        | succ j => simp at hr) 0 a (by simp)
      by_cases ht : ∃ l, a = .tup l
      · obtain ⟨l, rfl⟩ := ht
        rcases this with h | h
        · cases h
        · exact absurd rfl (VRel.notup h.1 l)
      · exact .of1 this (fun l e => ht ⟨l, e⟩)
  · rename_i hne
    obtain ⟨vs, rfl, e1, e2⟩ := hv
    have hgo : VRel P w' Γ' (.tup as) (.tuple vs) := by
      refine ⟨vs, rfl, by rw [hl, e1], fun j a x ha hx => ?_⟩
      have := h2 (fun j => vs.getD j undef) (fun j k hk => by
        have hj : j < vs.size := by rw [e1]; exact (List.getElem?_eq_some_iff.1 hk).1
        have := e2 j k vs[j] hk (by simp [hj])
        rw [Nat.zero_add]
        simpa [hj] using this) j a ha
      have hx' : vs.getD j undef = x := by simp [Array.getD_eq_getD_getElem?, hx]
      rwa [hx'] at this
    match as, rs, hl, hne with
    | [a], [k], _, hne => exact absurd rfl (hne k)
    | [], _, _, _ => exact hgo
    | _ :: _ :: _, _, _, _ => exact hgo

/-- A call of a summary that changes an argument's elements, in order. -/
theorem sumW_seq (T : TabOk P) (F : FnOk P) {s : Spec} (hC : Contract P s) {o : Oper} {st : St} {c : Call} (ho : o.op = .call c) {args : List A} (ht : target st c = some (s.f, args)) {i : Nat} (hwr : s.wr = some i) {fl : Nat} {K : A → List Ob → Option R}
    (h : sumE P true fl s args st.obs K = some r) {Γ : Env} {w : World} {act : Act} (hr : Rel P fl st Γ w act) {N : Act → World → Prop} {Q : Exit → Act → World → Prop}
    (hN : ∀ a obs1 Γ' w' v, K a obs1 = some r → VRel P w' Γ' a v → Mem P w' Γ' (fun _ => True) obs1 → Free fl Γ' obs1 → Ext (fun _ => True) w w' Γ Γ' → obs1.length = st.obs.length → (∀ base, Step base Γ Γ' w w') → N (act.put o.dst v) w') : o.wp P act w N Q := by
  obtain ⟨vals, hrun, hvs, hvr⟩ := target_rel F ho ht (fun x _ => hr.ev x) hC.body
  unfold sumE at h
  split at h
  · cases h
  · rename_i ds hds
    rw [hwr] at h
    simp only [Bool.true_and] at h
    split at h
    · rename_i hcc
      simp only [Bool.and_eq_true] at hcc
      obtain ⟨hsc, hstill⟩ := hcc
      obtain ⟨hl1, hl2, hget⟩ := datArgs_get hds
      have hargs : ∀ (j : Nat) t d v, j ≠ i → s.ps[j]? = some t → ds[j]? = some d → vals[j]? = some v → ArgRel P w Γ.Fz t d v := fun j t d v hji h1 h2 h3 => by
        have hj : j < args.length := by rw [← hl1]; exact (List.getElem?_eq_some_iff.1 h1).1
        have ha : args[j]? = some args[j] := List.getElem?_eq_getElem hj
        obtain ⟨g1, g2, g3⟩ := hget j t _ d h1 ha h2
        refine arg_rel T hr.mem (Wk.refl _) g1 g2 g3 (List.all_eq_true.1 hstill _ ?_) (hvr j _ v ha h3)
        refine List.mem_iff_getElem?.2 ?_
        rw [← ha]
        rcases Nat.lt_or_gt_of_ne hji with hlt | hgt
        · exact ⟨j, List.getElem?_eraseIdx_of_lt hlt⟩
        · exact ⟨j - 1, by rw [List.getElem?_eraseIdx_of_ge (by omega)]; congr 1; omega⟩
      have hdl : ds.length = vals.size := by rw [hvs]; exact hl2
      have hpl : s.ps.length = vals.size := by rw [hvs]; exact hl1
      -- nil
      have nilcase : s.wn = true → ∀ (obs0 : List Ob), Mem P w Γ (fun _ => True) obs0 → obs0.length = st.obs.length → Free fl Γ obs0 → vals[i]? = some (.slice none 0 0) → (ds.getD i .bad).es = [] →
          (∀ d, s.run ds = some d → (d.f s.rs.length).es = [] → (outE P s.rs (fun i => d.f i) 0 [] obs0 fun as obs => K (pack as) obs) = some r) → (∃ d, s.run ds = some d) → o.wp P act w N Q := fun hwn obs0 hm0 hlen0 hf0 hvi hde hK hd => by
        obtain ⟨d, hd⟩ := hd
        unfold Oper.wp
        rw [hrun, Oper.upon_enter]
        refine (hC.callN i hwr hwn Γ.Fz w vals ds d hr.mem.fzlt hdl hpl hargs hvi hde hd).mono fun en w' he => ?_
        obtain ⟨v, rfl, hq, Fz', q1, q2, hres, hnil⟩ := he
        obtain ⟨as, obs1, h1, h2⟩ := outE_ok (hK d hd hnil)
        have h1 : K (pack as) obs1 = some r := by simpa using h1
        obtain ⟨e1, e2⟩ := resW_rel h2 hsc (Γ' := ⟨Γ.β, Fz'⟩) hres
        subst e1
        have hfzs : ∀ b, Γ.Fz b → w'.heap[b]? = w.heap[b]? := fun b hb => hq.same b (hr.mem.fzlt b hb)
        have hext : Ext (fun _ => True) w w' Γ ⟨Γ.β, Fz'⟩ := ⟨q1, hfzs, fun _ _ _ h => h⟩
        refine hN (pack as) obs1 ⟨Γ.β, Fz'⟩ w' v h1 e2 ⟨fun x p hp => ?_, hr.mem.inj, fun b hb => ?_⟩ (fun x p b ob hfl hp hb hob hrw hfz => ?_) hext hlen0 fun base => ⟨hq.os, hq.tape, hq.output, hq.size, q1, hfzs, fun b hb _ => hq.same b hb, fun b hb => (q2 b hb).imp id fun h => .inl h.1, fun _ _ _ h => h, fun x p b hp hb => .inr ⟨x, p, hp, hb⟩⟩
        · obtain ⟨ob, g1, g2, g3, g4⟩ := hm0.ob x p hp
          have hbl : ∀ b, p.block = some b → w'.heap[b]? = w.heap[b]? := fun b hb => hq.same b (g3.lt hb)
          exact ⟨ob, g1, g2, g3.same hbl, fun hc => (g4 hc).same hbl ⟨q1, hfzs, fun _ _ _ h => h⟩⟩
        · rcases q2 b hb with h' | h'
          · have := hr.mem.fzlt b h'; have := hq.size; omega
          · exact h'.2
        · rcases q2 b hfz with g | g
          · exact hf0 x p b ob hfl hp hb hob hrw g
          · obtain ⟨_, _, _, g3, _⟩ := hr.mem.ob x p hp
            have := g3.lt hb
            omega
      split at h
      · rename_i q hai
        split at h
        · rename_i e es n f hob
          split at h
          · rename_i hcc2
            simp only [Bool.and_eq_true, decide_eq_true_eq, Bool.or_eq_true, Bool.not_eq_true'] at hcc2
            obtain ⟨hfl, hwn⟩ := hcc2
            have hi : i < args.length := (List.getElem?_eq_some_iff.1 hai).1
            have hti : s.ps[i]? = some (s.ps[i]'(by omega)) := List.getElem?_eq_getElem _
            have hdi : ds[i]? = some (ds[i]'(by omega)) := List.getElem?_eq_getElem _
            have hvi : vals[i]? = some (vals[i]'(by omega)) := by simp
            obtain ⟨g1, g2, g3⟩ := hget i _ _ _ hti hai hdi
            have hdes : (ds.getD i .bad).es = es := by
              rw [List.getD_eq_getElem?_getD, hdi]
              have : dataOf st.obs 60 (.own q) = some (.sl (band_ n (empty es)) es) := by unfold dataOf; rw [hob]
              rw [this] at g3
              cases g3h : ds[i]'(by omega) with
              | sl nl es' => rw [g3h] at g3; cases g3; rfl
              | _ => rw [g3h] at g3; cases g3
            have hvq := (hvr i _ _ hai hvi).one (by simp) rfl (by simp)
            obtain ⟨d, hd, h0⟩ := obind_some h
            have h : outE P s.rs (fun i => d.f i) 0 [] (st.obs.set q (.arr e (d.f s.rs.length).es n f true)) (fun as obs => K (pack as) obs) = some r := by
              rw [← pack_fun]; exact h0
            have hund : ty P (s.ps[i]'(by omega)) = .slice e := by
              have := g1
              simp only [fits, hob] at this
              generalize s.ps[i]'(by omega) = t0 at this ⊢
              cases hty : ty P t0 <;> simp [hty] at this
              rw [this]
            generalize hvv : vals[i]'(by omega) = vv at hvq hvi
            cases hvq with
            | ownNil hp =>
              obtain ⟨he, hn, hes⟩ := (hr.mem.at (Wk.refl _) hp hob).1
              subst hes; subst hn
              refine nilcase (hwn.resolve_right (by simp)) st.obs hr.mem rfl hr.free hvi hdes (fun d' hd' hnil => ?_) ⟨d, hd⟩
              rw [hd] at hd'; cases hd'
              rw [hnil] at h
              have e2 : st.obs.set q (.arr e [] true f true) = st.obs := by
                apply List.ext_getElem?
                intro j
                rw [List.getElem?_set]
                split
                · rename_i hj; subst hj
                  rw [if_pos (List.getElem?_eq_some_iff.1 hob).1]; exact hob.symm
                · rfl
              rw [e2] at h
              exact h
            | own hp hcn hcs hcf =>
              rename_i b k size e2 full cap
              obtain ⟨⟨he, hsl, hnl, hfu⟩, ⟨c0, hcell, hc0s, hc0l⟩, hct⟩ := hr.mem.at (Wk.refl _) hp hob
              subst he
              have hct := hct trivial c0 _ _ hcell
              have hnf : ¬ Γ.Fz b := hr.free q _ b _ hfl hp rfl hob rfl
              unfold Oper.wp
              rw [hrun, Oper.upon_enter]
              refine (hC.callW i hwr Γ.Fz w vals ds d e b cap c0 hr.mem.fzlt hdl hpl hargs (by rw [hvi, hdes, hsl]) ⟨_, hti, hund⟩ ⟨hcell, by rw [hdes]; omega, by omega, hnf, by rw [hdes]; exact hct⟩ hd).mono fun en w' hpost => ?_
              obtain ⟨v, rfl, hq, Fz', q1, q2, hres, hlen, c', hcs', harr⟩ := hpost
              rw [hdes] at hlen
              obtain ⟨as, obs1, h1, h2⟩ := outE_ok h
              have h1 : K (pack as) obs1 = some r := by simpa using h1
              obtain ⟨e1, e2⟩ := resW_rel h2 hsc (Γ' := ⟨Γ.β, Fz'⟩) hres
              subst e1
              have hfzs : ∀ b', Γ.Fz b' → w'.heap[b']? = w.heap[b']? := fun b' hb => hq.same b' (hr.mem.fzlt b' hb) (fun e => hnf (e ▸ hb))
              have hext : Ext (fun _ => True) w w' Γ ⟨Γ.β, Fz'⟩ := ⟨q1, hfzs, fun _ _ _ h => h⟩
              refine hN (pack as) _ ⟨Γ.β, Fz'⟩ w' v h1 e2 ⟨fun x p hpx => ?_, hr.mem.inj, fun b hb => ?_⟩ (fun x p b' ob hflx hpx hb hob' hrw hfz => ?_) hext (by simp) fun base => ⟨hq.os, hq.tape, hq.output, hq.size, q1, hfzs, fun b' hb hn => hq.same b' hb (fun e => hn q _ hp (by rw [e]; rfl)), fun b hb => (q2 b hb).imp id fun h => .inl h.1, fun _ _ _ h => h, fun x p b hp hb => .inr ⟨x, p, hp, hb⟩⟩
              · by_cases ex : x = q
                · subst ex
                  have hpp : p = .arr b k size e full := by
                    have : Γ.β x = some p := hpx
                    rw [hp] at this; cases this; rfl
                  subst hpp
                  refine ⟨_, List.getElem?_set_self (hr.mem.lt hp), ⟨rfl, by rw [hlen, hsl], hnl, hfu⟩, ⟨c', harr.blk, by omega, by omega⟩, fun _ c2 ty fz hc2 => ?_⟩
                  rw [harr.blk] at hc2; cases hc2
                  exact harr.els
                · obtain ⟨ob, g1, g2, g3, g4⟩ := hr.mem.ob x p hpx
                  have hbl : ∀ b', p.block = some b' → w'.heap[b']? = w.heap[b']? := fun b' hb => hq.same b' (g3.lt hb) (fun e => ex (hr.mem.inj x q p _ b hpx hp (e ▸ hb) rfl))
                  exact ⟨ob, by rw [List.getElem?_set_ne (Ne.symm ex)]; exact g1, g2, g3.same hbl, fun hc => (g4 hc).same hbl ⟨q1, hfzs, fun _ _ _ h => h⟩⟩
              · rcases q2 b hb with h' | h'
                · have := hr.mem.fzlt b h'; have := hq.size; omega
                · exact h'.2
              · rcases q2 b' hfz with g | g
                · by_cases ex : x = q
                  · subst ex
                    have : Γ.β x = some p := hpx
                    rw [hp] at this; cases this
                    cases hb
                    exact hnf g
                  · rw [List.getElem?_set_ne (Ne.symm ex)] at hob'
                    exact hr.free x p b' ob hflx hpx hb hob' hrw g
                · obtain ⟨_, _, _, g3, _⟩ := hr.mem.ob x p hpx
                  have := g3.lt hb
                  omega
          · cases h
        · cases h
      · rename_i hai
        split at h
        · rename_i hwn
          have hi : i < args.length := (List.getElem?_eq_some_iff.1 hai).1
          have hti : s.ps[i]? = some (s.ps[i]'(by omega)) := List.getElem?_eq_getElem _
          have hdi : ds[i]? = some (ds[i]'(by omega)) := List.getElem?_eq_getElem _
          have hvi : vals[i]? = some (vals[i]'(by omega)) := by simp
          obtain ⟨g1, g2, g3⟩ := hget i _ _ _ hti hai hdi
          have hdes : (ds.getD i .bad).es = [] := by
            rw [List.getD_eq_getElem?_getD, hdi]
            have : dataOf st.obs 60 .nsl = some (.sl true []) := by unfold dataOf; rfl
            rw [this] at g3
            cases g3h : ds[i]'(by omega) with
            | sl nl es' => rw [g3h] at g3; cases g3; rfl
            | _ => rw [g3h] at g3; cases g3
          have hvq := (hvr i _ _ hai hvi).one (by simp) rfl (by simp)
          obtain ⟨d, hd, h0⟩ := obind_some h
          have h : outE P s.rs (fun i => d.f i) 0 [] st.obs (fun as obs => K (pack as) obs) = some r := by
            rw [← pack_fun]; exact h0
          generalize hvv : vals[i]'(by omega) = vv at hvq hvi
          cases hvq
          exact nilcase hwn st.obs hr.mem rfl hr.free hvi hdes (fun d' hd' _ => by rw [hd] at hd'; cases hd'; exact h) ⟨d, hd⟩
        · cases h
      · cases h
    · cases h

end
end Go.Ev

namespace Go.Ev
open Go

section
variable {P : Program} {R : Type} {r : R}

/-! ### What is named is there -/
theorem namesL_get {o : Nat} : ∀ {l : List A}, A.namesL o l = true → ∃ (i : Nat) (a : A), l[i]? = some a ∧ a.names o = true
  | [], h => by simp [A.namesL] at h
  | a :: l, h => by
    simp only [A.namesL, Bool.or_eq_true] at h
    rcases h with h | h
    · exact ⟨0, a, rfl, h⟩
    · obtain ⟨i, b, h1, h2⟩ := namesL_get h
      exact ⟨i + 1, b, by simpa using h1, h2⟩
theorem CRel.dom {w : World} {Γ : Env} {a : A} {cs : List Value} (h : CRel P w Γ a cs) : ∀ {o : Nat}, a.names o = true → Γ.β o ≠ none := by
  induction h with
  | st ht hl hn ho hy hx h ih =>
    intro o hno
    simp only [A.names] at hno
    obtain ⟨i, a, h1, h2⟩ := namesL_get hno
    rename_i fs as cs
    have hi : i < fs.size := by rw [← hn]; exact (List.getElem?_eq_some_iff.1 h1).1
    exact ih i fs[i] a (by simp [hi]) h1 h2
  | fn h1 h2 sa sc ha hc iha ihc =>
    intro o hno
    simp only [A.names, Bool.or_eq_true] at hno
    rename_i fa ca fv cv
    rcases hno with hno | hno
    · obtain ⟨i, a, g1, g2⟩ := namesL_get hno
      have hi : i < fv.size := by rw [← h1]; exact (List.getElem?_eq_some_iff.1 g1).1
      exact iha i a fv[i] g1 (by simp [hi]) g2
    · obtain ⟨i, a, g1, g2⟩ := namesL_get hno
      have hi : i < cv.size := by rw [← h2]; exact (List.getElem?_eq_some_iff.1 g1).1
      exact ihc i a cv[i] g1 (by simp [hi]) g2
  | ownNil hp => intro o hno; simp [A.names] at hno; subst hno; rw [hp]; simp
  | own hp => intro o hno; simp [A.names] at hno; subst hno; rw [hp]; simp
  | subNil hp => intro o hno; simp [A.names] at hno; subst hno; rw [hp]; simp
  | sub hp => intro o hno; simp [A.names] at hno; subst hno; rw [hp]; simp
  | ref hp => intro o hno; simp [A.names] at hno; subst hno; rw [hp]; simp
  | eref hp => intro o hno; simp [A.names] at hno; subst hno; rw [hp]; simp
  | mapr hp => intro o hno; simp [A.names] at hno; subst hno; rw [hp]; simp
  | _ => intro o hno; simp [A.names] at hno
theorem VRel.dom {w : World} {Γ : Env} {a : A} {v : Value} (h : VRel P w Γ a v) {o : Nat} (ho : a.names o = true) : Γ.β o ≠ none := by
  have one : ∀ {a v}, VRel1 P w Γ a v → a.names o = true → Γ.β o ≠ none := fun h ho => by
    rcases h with rfl | ⟨h, _⟩
    · simp [A.names] at ho
    · exact h.dom ho
  unfold VRel at h
  split at h
  · rename_i as
    obtain ⟨vs, _, h2, h3⟩ := h
    simp only [A.names] at ho
    obtain ⟨i, a, g1, g2⟩ := namesL_get ho
    have hi : i < vs.size := by rw [← h2]; exact (List.getElem?_eq_some_iff.1 g1).1
    exact one (h3 i a vs[i] g1 (by simp [hi])) g2
  · exact one h ho
theorem Mem.named {w : World} {Γ : Env} {cv : Nat → Prop} {obs : List Ob} (hm : Mem P w Γ cv obs) {a : A} {v : Value} (h : VRel P w Γ a v) : ∀ o, a.names o = true → o < obs.length := fun o ho => by
  cases hb : Γ.β o with
  | none => exact absurd hb (h.dom ho)
  | some p => exact hm.lt hb
/-- A temporary takes a value behind something that left alone what was there. -/
theorem Rel.setB {fl : Nat} {st : St} {Γ Γ' : Env} {w w' : World} {act : Act} (h : Rel P fl st Γ w act) {obs1 : List Ob} (e : Ext (· < st.obs.length) w w' Γ Γ') (hm : Mem P w' Γ' (fun _ => True) obs1) (hf : Free fl Γ' obs1)
    (dst : Option Tmp) {a : A} {v : Value} (hv : VRel P w' Γ' a v) : Rel P fl (St.set { st with obs := obs1 } dst a) Γ' w' (act.put dst v) := by
  have old : ∀ t, VRel P w' Γ' (st.tmps.getD t .junk) (act.tmps.getD t undef) := fun t => (h.tmps t).ext (h.mem.named (h.tmps t)) e
  cases dst with
  | none => exact ⟨hm, hf, old, h.size, h.ndef⟩
  | some d =>
    refine ⟨hm, hf, fun t => ?_, ?_, h.ndef⟩
    · show VRel P w' Γ' ((st.tmps.set d a).getD t .junk) ((act.put (some d) v).tmps.getD t undef)
      rw [set_getD, put_getD, h.size]
      split
      · exact hv
      · exact old t
    · show (st.tmps.set d a).length = (act.tmps.setIfInBounds d v).size
      simp [h.size]

/-- A call that is run in its turn. -/
def CallOk (P : Program) (call : CallE R) : Prop :=
  ∀ (c : Ctx) (f : FuncId) (args : List A) (obs : List Ob) (K : A → List Ob → Option R) (r : R), call c f args obs K = some r → (∃ fn, P.funcs[f]? = some fn ∧ fn.body.isSome = true) ∧
    ∀ (Γ : Env) (w : World) (vals : Array Value), Mem P w Γ (fun _ => True) obs → Free c.fl Γ obs → c.fl ≤ obs.length → vals.size = args.length → (∀ (i : Nat) a v, args[i]? = some a → vals[i]? = some v → VRel P w Γ a v) → ∀ N : Value → World → Prop,
      (∀ a obs1 Γ' w' v, K a obs1 = some r → VRel P w' Γ' a v → Mem P w' Γ' (fun _ => True) obs1 → Free c.fl Γ' obs1 → Step obs.length Γ Γ' w w' → obs.length ≤ obs1.length → N v w') →
      Calls P f vals w fun e w' => ∃ v, e = .returned v ∧ N v w'

theorem oneOp_sound (T : TabOk P) (F : FnOk P) {cf : Cfg} (hS : ∀ s ∈ cf.S, Contract P s) {call : CallE R} (hcall : CallOk P call) {c : Ctx} {o : Oper} {st : St} {K : St → Option R} (h : oneOp P cf call c o st K = some r)
    {Γ : Env} {w : World} {act : Act} (hr : Rel P c.fl st Γ w act) (hb : c.base ≤ st.obs.length) (hfb : c.fl ≤ c.base) {N : Act → World → Prop} {Q : Exit → Act → World → Prop}
    (hN : ∀ st' Γ' w' act', K st' = some r → Rel P c.fl st' Γ' w' act' → c.base ≤ st'.obs.length → Step c.base Γ Γ' w w' → N act' w') : o.wp P act w N Q := by
  have still : ∀ {K' : A → List Ob → Option R}, SOutK P none true o st K' r → (∀ a obs, K' a obs = some r → K (St.set { st with obs := obs } o.dst a) = some r) → o.wp P act w N Q := fun {K'} hs hK =>
    hs.seq hr fun a obs1 Γ' w' act' hKa hwk _ hr' hstep _ _ => hN _ Γ' w' act' (hK a obs1 hKa) hr' (by rw [set_obs]; exact Nat.le_trans hb hwk.le) (hstep _)
  have hE : ∀ {Γ : Env} {w : World}, Ext (fun _ => True) w w Γ Γ := ⟨fun _ h => h, fun _ _ => rfl, fun _ _ _ h => h⟩
  unfold oneOp at h
  split at h
  · rename_i x ho
    exact still (assign_sound ho h).toS fun _ _ h => h
  · rename_i t x y ho
    exact store_seq T ho h hr fun obs1 w' act' hK hl hr' hs => hN _ Γ w' act' hK hr' (by rw [set_obs]; show c.base ≤ obs1.length; omega) hs
  · rename_i t m k v ho
    split at h
    · rename_i ob kk n vk x hm hk hv
      split at h
      · rename_i kt vt es hob
        split at h
        · rename_i kk' vk' hkt hvt
          split at h
          · rename_i hcc
            simp only [Bool.and_eq_true, decide_eq_true_eq, beq_iff_eq] at hcc
            obtain ⟨⟨⟨h1, h2⟩, h3⟩, h4⟩ := hcc
            subst h2; subst h3
            split at h
            · rename_i es' hins
              exact insert_seq ho hm hk hv hob hkt hvt h4 h1 hins hr fun w' hr' hs => hN _ Γ w' _ h hr' (by rw [set_obs]; simpa using hb) (hs _)
            · cases h
          · cases h
        · cases h
      · cases h
    · cases h
  · rename_i cl ho
    split at h
    · rename_i hc
      split at h
      · rename_i t t' s x hty hargs
        have fin : ∀ {a : A} {st' : St} {Γ' : Env} {w' : World} {v : Value}, K (st'.set o.dst a) = some r → VRel P w' Γ' a v → Rel P c.fl st' Γ' w' act → st.obs.length ≤ st'.obs.length → Step c.base Γ Γ' w w' → N (act.put o.dst v) w' := fun {a st' Γ' w' v} hK hv hr' hl hs =>
            hN _ Γ' w' _ hK (hr'.set (obs1 := st'.obs) hE hr'.mem hr'.free o.dst hv) (by rw [set_obs]; omega) hs
        split at h
        · rename_i htt
          have htt : t = t' := by simpa using htt
          subst htt
          split at h
          · exact appendSE_sound T ho hc hty hargs hb h hr hfb fun a st' Γ' w' v hK hv hr' hl hs => fin hK hv hr' hl hs
          · exact appendAE_sound T ho hc hty hargs hb h hr hfb fun a st' Γ' w' v hK hv hr' hl hs => fin hK hv hr' hl hs
          · exact appendE_sound T ho hc hty hargs hb h hr hfb fun a st' Γ' w' v hK hv hr' hl hs => fin hK hv hr' hl hs
        · exact appendZE_sound T ho hc hty hargs h hr fun a st' Γ' w' v hK hv hr' hl hs => fin hK hv hr' hl hs
      · cases h
    · rename_i hc
      split at h
      · rename_i t s hty hargs
        exact clear_seq T ho hc hty hargs h hr fun st' w' hK hr' hl hs =>
          hN _ Γ w' _ hK (hr'.set (obs1 := st'.obs) hE hr'.mem hr'.free o.dst VRel.undef) (by rw [set_obs]; omega) (hs _)
      · cases h
    · rename_i b _ _ hc
      exact still (builtin_sound ho hc h).toS fun _ _ h => h
    · split at h
      · rename_i f args ht
        split at h
        · rename_i s hs
          obtain ⟨h1, h2⟩ := findSpec_mem hs
          subst h2
          cases hwr : s.wr with
          | none => exact still (sumE_sound T F (hS s h1) ho ht hwr h) fun _ _ h => h
          | some i =>
            have h' : sumE P true c.fl s args st.obs (fun a obs => K (St.set { st with obs := obs } o.dst a)) = some r := h
            exact sumW_seq T F (hS s h1) ho ht hwr h' hr fun a obs1 Γ' w' v hK hv hm hf he hl hs' => hN _ Γ' w' _ hK (hr.set he hm hf o.dst hv) (by rw [set_obs]; show c.base ≤ obs1.length; omega) (hs' _)
        · obtain ⟨hbody, hgo⟩ := hcall _ _ _ _ _ _ h
          obtain ⟨vals, hrun, hvs, hvr⟩ := target_rel F ho ht (fun x _ => hr.ev x) hbody
          unfold Oper.wp
          rw [hrun, Oper.upon_enter]
          refine (hgo Γ w vals hr.mem hr.free (Nat.le_trans hfb hb) hvs hvr (fun v w' => N (act.put o.dst v) w') fun a obs1 Γ' w' v hK hv hm hf hs hl => ?_).mono fun e w' he => ?_
          · exact hN _ Γ' w' _ hK (hr.setB hs.ext hm hf o.dst hv) (by rw [set_obs]; show c.base ≤ obs1.length; omega) (hs.mono hb)
          · obtain ⟨v, rfl, hn⟩ := he
            exact hn
      · cases h
  · exact still (pureOp_sound T h).toS fun _ _ h => h

/-- Operations one behind the other. -/
theorem opsE_sound (T : TabOk P) (F : FnOk P) {cf : Cfg} (hS : ∀ s ∈ cf.S, Contract P s) {call : CallE R} (hcall : CallOk P call) {c : Ctx} {ops : Array Oper} (hfb : c.fl ≤ c.base) {K : St → Option R} {Q : Exit → Act → World → Prop} : ∀ (l : List Oper) {st : St}, opsE P cf call c ops l st K = some r →
    ∀ {Γ : Env} {w : World} {act : Act}, Rel P c.fl st Γ w act → c.base ≤ st.obs.length →
    (∀ st' Γ' w' act', K st' = some r → Rel P c.fl st' Γ' w' act' → c.base ≤ st'.obs.length → Step c.base Γ Γ' w w' → Q .normal act' w') → wpList P ops Q l act w
  | [], st, h, Γ, w, act, hr, hb, hQ => hQ st Γ w act h hr hb (Step.refl _ _ _)
  | o :: l, st, h, Γ, w, act, hr, hb, hQ => by
    unfold opsE at h
    simp only [wpList]
    rcases guardE_ok (P := P) (Γ := Γ) (w := w) (act := act) h (fun j b d _ _ => hr.tmps d) hr.size with ⟨hw, hy⟩ | ⟨hw, hn⟩
    · rw [if_pos hw]
      exact .inl (oneOp_sound T F hS hcall hy hr hb hfb fun st' Γ' w' act' hK hr' hb' hs => opsE_sound T F hS hcall hfb l hK hr' hb' fun st2 Γ2 w2 act2 hK2 hr2 hb2 hs2 => hQ st2 Γ2 w2 act2 hK2 hr2 hb2 (hs.trans hs2))
    · rw [if_neg (by rw [hw]; simp)]
      exact opsE_sound T F hS hcall hfb l hn (hr.skip o.dst) (by rw [set_obs]; exact hb) fun st2 Γ2 w2 act2 hK2 hr2 hb2 hs2 => hQ st2 Γ2 w2 act2 hK2 hr2 hb2 hs2

/-- In a region of open order that comes to one truth nothing is stored. -/
theorem still_all {cf : Cfg} {l : List Oper} {x : Oper × Tmp} (h : truthOf P cf l = some x) : (∀ o ∈ l, isStill o = true) := by
  unfold truthOf at h
  split at h
  · split at h
    · split at h
      · split at h
        · rename_i hc
          simp only [Bool.and_eq_true] at hc
          exact fun o ho => List.all_eq_true.1 hc.1.1.2 o ho
        · cases h
      · split at h
        · rename_i hc
          simp only [Bool.and_eq_true] at hc
          exact fun o ho => List.all_eq_true.1 hc.1.1.2 o ho
        · cases h
      · cases h
    · cases h
  · cases h

/-- A REGION. -/
theorem regionE_sound (T : TabOk P) (F : FnOk P) (hmix : P.follows .mixedOrders = true) {cf : Cfg} (hS : ∀ s ∈ cf.S, Contract P s) {call : CallE R} (hcall : CallOk P call) {c : Ctx} {id : Nat} {ops : Array Oper} {draw : Bool} {st : St} {K : St → Option R}
    (h : regionE P cf call c id ops draw st K = some r) (hfb : c.fl ≤ c.base) {Γ : Env} {w : World} {act : Act} (hr : Rel P c.fl st Γ w act) (hb : c.base ≤ st.obs.length) {Q : Exit → Act → World → Prop}
    (hQ : ∀ st' Γ' w' act', K st' = some r → Rel P c.fl st' Γ' w' act' → c.base ≤ st'.obs.length → Step c.base Γ Γ' w w' → Q .normal act' w') : (Code.region id ops draw).wp P Q act w := by
  unfold regionE at h
  simp only at h
  split at h
  · cases h
  · rename_i hdr
    split at h
    · rename_i x d hj
      have hj : truthOf P cf ops.toList = some (x, d) := by
        split at hj
        · cases hj
        · exact hj
      have hst := still_all hj
      obtain ⟨b, h1, h2⟩ := obind_some h
      have fin : ∀ {st' Γ' w' act'}, Rel P c.fl st' Γ' w' act' → Pre st.obs st'.obs → (∀ base, Step base Γ Γ' w w') → (∀ b, b < w.heap.size → w'.heap[b]? = w.heap[b]?) → (∀ t, (∀ o ∈ ops.toList, o.dst ≠ some t) → act'.tmps.getD t undef = act.tmps.getD t undef) →
          act'.tmps.size = act.tmps.size → truthAt st' d = some b → Q .normal act' w' := fun hr' hpre hstep hold htm hsz hb' => by
        obtain ⟨g1, g2⟩ := join_rel hr hr' hpre hstep hold ops.toList htm hsz hb'
        exact hQ _ _ _ _ h2 g1 (by rw [set_obs, forget_obs]; exact hb) (g2 _)
      cases draw with
      | false =>
        exact wp_region_list (still_seq T F hS ops.toList hst h1 hr fun st' Γ' w' act' hK hr' hpre hstep hold htm hsz => fin hr' (hpre rfl) hstep hold (fun t ht => (htm t ht).2) hsz hK)
      | true =>
        have hd : drawOk ops = true := by simpa using hdr
        obtain ⟨s, hs0, hK, htr⟩ := stillE_trace (P := P) T F hS ops.toList h1
        have tr : Tr P (some st.obs.length) false ops s := ⟨fun i o ho => htr i o (by simpa using ho)⟩
        have hK' : truthAt (s ops.size) d = some b := by simpa using hK
        have hns : ∀ (i : Nat) o, ops[i]? = some o → isSto o = false := fun i o ho => by
          have := hst o (Array.mem_toList_iff.2 (Array.mem_of_getElem? ho))
          unfold isSto
          split
          · rename_i hop; simp [isStill, hop] at this
          · rfl
        have hno : ∀ {i : Nat} {o : Oper}, ops[i]? = some o → isSto o = true → False := fun ho hy => by
          rw [hns _ _ ho] at hy; cases hy
        have S : Stores P c.fl st.obs.length ops (s ops.size) (fun _ => (0, .dead)) (s ops.size).obs := ⟨rfl, fun i o ho hs => (hno ho hs).elim, fun j k o o' _ h1 _ h3 => (hno h1 h3).elim, fun k o h1 h3 => (hno h1 h3).elim, fun _ _ => rfl⟩
        refine draw_core T hmix hd hs0 tr S hr fun listed Γ' w' act' hr' hi => ?_
        have hpre := tr.pre (Nat.le_refl _)
        rw [hs0] at hpre
        exact fin hr' hpre hi.step (hi.old hns) (fun t ht => hi.tm t fun i o ho => ht o (Array.mem_toList_iff.2 (Array.mem_of_getElem? ho))) (by rw [hi.size, hs0]; exact hr.size) hK'
    · cases draw with
      | false => exact wp_region_list (opsE_sound T F hS hcall hfb ops.toList (by simpa using h) hr hb hQ)
      | true =>
        have hd : drawOk ops = true := by simpa using hdr
        have h' : stillE P cf true (some st.obs.length) ops ops.toList st (fun st' => storesE P c.fl st.obs.length ops st' 0 ops.toList [] st'.obs fun obs => K { st' with obs := obs }) = some r := by simpa using h
        exact draw_sound T F hmix hS hd h' hr fun st' Γ' w' act' hK hr' hl hs => hQ st' Γ' w' act' hK hr' (by omega) (hs _)

end
end Go.Ev
