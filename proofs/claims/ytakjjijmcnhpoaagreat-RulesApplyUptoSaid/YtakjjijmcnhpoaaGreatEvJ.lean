/- The evaluator E: append of slices that are written; entries of maps; clear. -/
import Derived.Test.YtakjjijmcnhpoaaGreatEvI
import Derived.IntWalk
namespace Go.Ev
open Go

section
variable {P : Program} {R : Type} {r : R}

theorem new_cells' {α : Type} {c : Nat} {es xs : List α} {olds news : List Value} {rest : Array Value} {Q : α → List Value → Prop} (ho : olds.length = es.length * c) (hn : news.length = xs.length * c)
    (hod : ∀ (i : Nat) y, es[i]? = some y → Q y ((olds.drop (i * c)).take c)) (hnd : ∀ (i : Nat) y, xs[i]? = some y → Q y ((news.drop (i * c)).take c)) :
    ∀ (i : Nat) y, (es ++ xs)[i]? = some y → Q y (cellsIn (olds.toArray ++ news.toArray ++ rest) (i * c) c) := fun i y hy => by
  unfold cellsIn
  simp only [Array.toList_append, List.append_assoc]
  by_cases hi : i < es.length
  · rw [List.getElem?_append_left hi] at hy
    have hle : (i + 1) * c ≤ es.length * c := Nat.mul_le_mul_right _ hi
    rw [Nat.add_mul, Nat.one_mul] at hle
    rw [List.drop_append_of_le_length (by omega), List.take_append_of_le_length (by simp; omega)]
    exact hod i y hy
  · rw [List.getElem?_append_right (by omega)] at hy
    have hj : i - es.length < xs.length := (List.getElem?_eq_some_iff.1 hy).1
    have hle : (i - es.length + 1) * c ≤ xs.length * c := Nat.mul_le_mul_right _ hj
    rw [Nat.add_mul, Nat.one_mul] at hle
    have e1 : i * c = olds.length + (i - es.length) * c := by rw [ho, ← Nat.add_mul]; congr 1; omega
    have e2 : ((olds ++ (news ++ rest.toList)).drop (i * c)) = (news ++ rest.toList).drop ((i - es.length) * c) := by
      rw [e1, ← List.drop_drop, List.drop_left]
    show Q y (((olds ++ (news ++ rest.toList)).drop (i * c)).take c)
    rw [e2, List.drop_append_of_le_length (by omega), List.take_append_of_le_length (by simp; omega)]
    exact hnd _ y hy
/-- The same where there is room. -/
theorem room_cells {α : Type} {c k : Nat} {es xs : List α} {cs news : List Value} {Q : α → List Value → Prop} (hk : es.length = k) (hn : news.length = xs.length * c) (hfit : k * c + news.length ≤ cs.length)
    (hod : ∀ (i : Nat) y, es[i]? = some y → Q y ((cs.drop (i * c)).take c)) (hnd : ∀ (i : Nat) y, xs[i]? = some y → Q y ((news.drop (i * c)).take c)) :
    ∀ (i : Nat) y, (es ++ xs)[i]? = some y → Q y (((ow cs (k * c) news).drop (i * c)).take c) := fun j y hy => by
  by_cases hj : j < es.length
  · rw [List.getElem?_append_left hj] at hy
    have hle2 : (j + 1) * c ≤ k * c := Nat.mul_le_mul_right _ (by omega)
    rw [Nat.add_mul, Nat.one_mul] at hle2
    rw [ow_apart hfit (.inl hle2)]
    exact hod j y hy
  · rw [List.getElem?_append_right (by omega)] at hy
    have hj2 : j - es.length < xs.length := (List.getElem?_eq_some_iff.1 hy).1
    have hle2 : (j - es.length + 1) * c ≤ xs.length * c := Nat.mul_le_mul_right _ hj2
    rw [Nat.add_mul, Nat.one_mul] at hle2
    have e1 : j * c = k * c + (j - es.length) * c := by rw [← Nat.add_mul]; congr 1; omega
    have e2 : ((ow cs (k * c) news).drop (j * c)).take c = (news.drop ((j - es.length) * c)).take c := by
      apply List.ext_getElem?
      intro m
      simp only [List.getElem?_take, List.getElem?_drop]
      split
      · rw [ow_get hfit, if_neg (by omega), if_pos (by omega)]
        congr 1; omega
      · rfl
    rw [e2]
    exact hnd _ y hy

theorem names_not {o : Nat} {l : List A} (h : A.namesL o l = false) {i : Nat} {a : A} (ha : l[i]? = some a) : ∀ q, a.names q = true → q ≠ o := fun q hq he => by
  subst he
  rw [names_getElem ha hq] at h; cases h

theorem appendAE_sound (T : TabOk P) {o : Oper} {st : St} {c : Call} (ho : o.op = .call c) (hc : c.callee = .builtin .append) {t : TypeId} (hty : c.argTypes.toList = [t, t]) {s x : A} (hargs : c.args.toList.map (ev st) = [s, x])
    {fl base : Nat} (hbl : base ≤ st.obs.length) {K : A → St → Option R} (h : appendAE P base t st s x K = some r) {Γ : Env} {w : World} {act : Act} (hr : Rel P fl st Γ w act) (hfb : fl ≤ base) {N : Act → World → Prop} {Q : Exit → Act → World → Prop}
    (hN : ∀ a st' Γ' w' v, K a st' = some r → VRel P w' Γ' a v → Rel P fl st' Γ' w' act → st.obs.length ≤ st'.obs.length → Step base Γ Γ' w w' → N (act.put o.dst v) w') : o.wp P act w N Q := by
  obtain ⟨p1, p2, hab, hp1, hp2⟩ := args_two hargs
  have hat : c.argTypes = #[t, t] := by
    cases hq : c.argTypes with
    | mk l => rw [hq] at hty; simp at hty; rw [hty]
  have hrunT : ∀ v w', (Builtin.append_ #[t, t] o.type #[act.eval p1, act.eval p2]).run P w = .ok v w' → N (act.put o.dst v) w' → o.wp P act w N Q := fun v w' hrun hn => by
    obtain ⟨cs, h1⟩ := run_builtin (P := P) (w := w) (act := act) ho hc
    unfold Oper.wp
    rw [h1]
    simp only [builtin, hab, hat]
    have e : (Array.map act.eval #[p1, p2]) = #[act.eval p1, act.eval p2] := by simp
    rw [e]
    simp only [Sem.run_bind, hrun, Result.andThen_ok, Sem.run_pure]
    exact hn
  have hs := hr.ev p1
  have hx := hr.ev p2
  rw [hp1] at hs
  rw [hp2] at hx
  unfold appendAE at h
  split at h
  · rename_i e q0 q hk
    split at h
    · rename_i e' as f0 e'' bs f1 rw1 hob hoq
      split at h
      · rename_i hcc
        simp only [Bool.and_eq_true, beq_iff_eq, decide_eq_true_eq, bne_iff_ne, Bool.not_eq_true'] at hcc
        obtain ⟨⟨⟨⟨⟨⟨⟨hee, hee2⟩, hb0⟩, hne⟩, h0⟩, hp⟩, hn1⟩, hn2⟩ := hcc
        subst hee; subst hee2
        have hu := (ty_slice hk).2
        obtain ⟨i, z, hi, hz, hd, _⟩ := zero_ok T hp
        have hsz : i.size = P.cellsOf e := by simp [Program.cellsOf, hi]
        have hby : i.bytes = P.bytesOf e := by simp [Program.bytesOf, hi]
        have hzl : z.cells.size = P.cellsOf e := by simpa using (hd default (fun _ => False)).len T (plain_lt hp)
        rcases cnd_some h with ⟨hroom, h⟩ | ⟨_, h⟩
        · obtain ⟨hr1, hr2⟩ := room_ok (n := as.length) (m := bs.length) hroom
          have hs := hs.one (by simp) rfl (by simp)
          have hx := hx.one (by simp) rfl (by simp)
          generalize hve : act.eval p1 = ve at hs
          generalize hvx : act.eval p2 = vx at hx
          cases hs with
          | ownNil hp => have := (hr.mem.at (Wk.refl _) hp hob).1; simp [Shape] at this
          | own hpo hcn hcs hcf =>
            rename_i b k size e2 full cap
            cases hx with
            | ownNil hp => have := (hr.mem.at (Wk.refl _) hp hoq).1; simp [Shape] at this
            | own hpq hcn2 hcs2 hcf2 =>
              rename_i b2 m size2 e3 full2 cx
              obtain ⟨⟨he1, hsl, hsf⟩, ⟨c0, hcell, hc0s, hc0l⟩, hct⟩ := hr.mem.at (Wk.refl _) hpo hob
              obtain ⟨⟨he2, hsl2, _⟩, ⟨c2, hcell2, hc2s, hc2l⟩, hct2⟩ := hr.mem.at (Wk.refl _) hpq hoq
              subst he1; subst he2; subst hsl2
              have hct := hct trivial c0 _ _ hcell
              have hct2 := hct2 trivial c2 _ _ hcell2
              have hnfz : ¬ Γ.Fz b := hr.free q0 _ b _ (by omega) hpo rfl hob rfl
              have hnl : (cellsIn c2 0 (bs.length * P.cellsOf e)).length = bs.length * P.cellsOf e := cellsIn_length (by omega)
              have hnd : ∀ (i : Nat) y, bs[i]? = some y → Fit P Γ e y ∧ CRel P w Γ y (((cellsIn c2 0 (bs.length * P.cellsOf e)).drop (i * P.cellsOf e)).take (P.cellsOf e)) := fun i y hy => by
                have hi := (List.getElem?_eq_some_iff.1 hy).1
                have hle : (i + 1) * P.cellsOf e ≤ bs.length * P.cellsOf e := Nat.mul_le_mul_right _ hi
                rw [Nat.add_mul, Nat.one_mul] at hle
                unfold cellsIn
                rw [cut_cut _ _ _ _ _ hle, Nat.zero_add]
                exact hct2 i y hy
              have hno := one_of_pieces hnl (fun i hi => ((hnd i _ (List.getElem?_eq_getElem hi)).2).oneC)
              have hncell := cells_add (cellsIn_at hcell2 0 (bs.length * P.cellsOf e))
              have hstlen : st.obs.length ≤ ((st.obs.map (sweepO q0)).set q0 (.arrA e (as ++ bs) false true)).length := by simp
              have hall : ∀ {i : Nat} {y : A}, (as ++ bs)[i]? = some y → ∀ q, y.names q = true → q ≠ q0 := fun {i y} hy => by
                by_cases hi : i < as.length
                · rw [List.getElem?_append_left hi] at hy; exact names_not hn1 hy
                · rw [List.getElem?_append_right (by omega)] at hy; exact names_not hn2 hy
              have fin : ∀ {p : Place} {w' : World} {v : Value} {c' : Array Value} {b' : Nat}, (Builtin.append_ #[t, t] o.type #[act.eval p1, act.eval p2]).run P w = .ok v w' →
                  (w'.os = w.os ∧ w'.tape = w.tape ∧ w'.output = w.output) → w.heap.size ≤ w'.heap.size → (∀ j, j < w.heap.size → b ≠ j → w'.heap[j]? = w.heap[j]?) →
                  p.block = some b' → (b' = b ∨ w.heap.size ≤ b') → Shape (.arrA e (as ++ bs) false true) p → Backed P w' p → w'.heap[b']? = some (.cells c' e (0, 0)) → (∀ (i : Nat) y, (as ++ bs)[i]? = some y → Fit P Γ e y ∧ CRel P w Γ y (cellsIn c' (i * P.cellsOf e) (P.cellsOf e))) →
                  (∀ Γ', Γ'.β q0 = some p → CRel P w' Γ' (.own q0) [v]) → (∃ a n c, v = .slice a n c) → o.wp P act w N Q := fun {p w' v c' b'} hrun hos hszw hfr hpb hb' hsh hbk hc' hcon hval hvs => by
                have hfzs : ∀ j, Γ.Fz j → w'.heap[j]? = w.heap[j]? := fun j hj => hfr j (hr.mem.fzlt j hj) (fun e => hnfz (e ▸ hj))
                have hext : Ext (fun q => q ≠ q0) w w' Γ (Γ.put q0 p) := ⟨fun _ h => h, hfzs, fun q r hq hr => by rw [Env.put_ne _ _ hq]; exact hr⟩
                obtain ⟨g1, g2⟩ := hr.regrow (base := base) hpo ⟨e, rfl⟩ hb0 hos hszw (fun j hj hne => hfr j hj (fun h => hne (by rw [h]; rfl))) (fun b1 hb1 => by simp [Place.block] at hb1; subst hb1; exact hnfz)
                  (fun b1 hb1 => by
                    rw [hpb] at hb1; cases hb1
                    rcases hb' with rfl | h
                    · exact ⟨hnfz, .inl rfl⟩
                    · exact ⟨fun hf => by have := hr.mem.fzlt _ hf; omega, .inr h⟩) hsh hbk (ob := .arrA e (as ++ bs) false true) (by
                    cases p with
                    | arr pb pl ps pe pf =>
                      simp [Place.block] at hpb; subst hpb
                      intro c3 ty fz hc3 j y hy
                      rw [hc'] at hc3; cases hc3
                      obtain ⟨h1, h2⟩ := hcon j y hy
                      exact ⟨h1.ext (hall hy) hext, h2.ext (hall hy) hext⟩
                    | _ => trivial)
                refine hrunT v w' hrun ?_
                refine hN _ _ _ w' v h (.mk1 (hval _ (Env.put_at _ _ _)) rfl (by simp) ?_) g1 hstlen g2
                obtain ⟨a, n, c, rfl⟩ := hvs
                rfl
              have hlen : (as ++ bs).length = k + bs.length := by simp [hsl]
              have hfit0 : k * P.cellsOf e ≤ cap * P.cellsOf e := Nat.mul_le_mul_right _ hcn
              by_cases hbe : bs = []
              · subst hbe
                refine fin (p := .arr b k size e full) (b' := b) (by rw [hve, hvx]; exact run_append_zero hu hi hcn) ⟨rfl, rfl, rfl⟩ (Nat.le_refl _) (fun _ _ _ => rfl) rfl (.inl rfl) ⟨rfl, by simp [hsl], by simp⟩ ⟨c0, hcell, hc0s, hc0l⟩ hcell (fun i y hy => hct i y (by simpa using hy)) (fun Γ' hp' => .own hp' hcn hcs hcf) ⟨_, _, _, rfl⟩
              · have hpos : 0 < bs.length := List.length_pos_iff.2 hbe
                by_cases hroomc : k + bs.length ≤ cap
                · have hle : (k + bs.length) * P.cellsOf e ≤ cap * P.cellsOf e := Nat.mul_le_mul_right _ hroomc
                  rw [Nat.add_mul] at hle
                  have hrun := run_append_room (P := P) w t o.type e i hu hi b k cap c0 hcell ⟨b2, 0, none⟩ bs.length cx _ (by rw [hsz]; exact hnl) hncell hno hroomc (by rw [hsz]; omega)
                  rw [hsz] at hrun
                  generalize hnews : cellsIn c2 0 (bs.length * P.cellsOf e) = news at hrun hnl hnd
                  have hfit : k * P.cellsOf e + news.length ≤ c0.toList.length := by simp; omega
                  have hblk := setRow_heap w b c0 (c0.toList.take (k * P.cellsOf e) ++ news ++ c0.toList.drop (k * P.cellsOf e + news.length)).toArray e (0, 0) hcell
                  refine fin (p := .arr b (k + bs.length) size e false) (b' := b) (w' := w.setRow b (c0.toList.take (k * P.cellsOf e) ++ news ++ c0.toList.drop (k * P.cellsOf e + news.length)).toArray) (by rw [hve, hvx]; exact hrun) ⟨rfl, rfl, rfl⟩ (by simp) (fun j hj hne => setRow_other w b j _ (fun h => hne h.symm)) rfl (.inl rfl)
                    ⟨rfl, by rw [hlen], by simp⟩ ⟨_, hblk, ?_, by rw [Nat.add_mul]; omega⟩ hblk ?_ (fun Γ' hp' => .own hp' hroomc hcs (by simp)) ⟨_, _, _, rfl⟩
                  · have := ow_length hfit
                    unfold ow at this
                    simp only [List.size_toArray]
                    rw [this]; simpa using hc0s
                  · exact room_cells (Q := fun y cs => Fit P Γ e y ∧ CRel P w Γ y cs) hsl hnl hfit hct hnd
                · have hcut : ∀ j u, (cellsIn c0 0 (k * P.cellsOf e))[j]? = some u → w.cell? ((⟨b, 0, none⟩ : Addr).add j) = some u := cells_add (cellsIn_at hcell 0 _)
                  have holen : (cellsIn c0 0 (k * P.cellsOf e)).length = k * P.cellsOf e := cellsIn_length (by omega)
                  have hrun := run_append_grow (P := P) w t o.type e i z hu hi hz ⟨b, 0, none⟩ k cap (cellsIn c0 0 (k * P.cellsOf e)) (by rw [hsz]; exact holen) hcut ⟨b2, 0, none⟩ bs.length cx (cellsIn c2 0 (bs.length * P.cellsOf e)) (by rw [hsz]; exact hnl) hncell (by omega) (by omega)
                    (growslice_fits (by omega) (by rw [hby, ← hsl]; omega))
                  have hge := grownCap_ge w (k + bs.length) cap e
                  have hCs : ((cellsIn c0 0 (k * P.cellsOf e)).toArray ++ (cellsIn c2 0 (bs.length * P.cellsOf e)).toArray ++ Builtin.zeroCells z.cells (grownCap w (k + bs.length) cap e - (k + bs.length))).size = grownCap w (k + bs.length) cap e * P.cellsOf e := by
                    simp only [Array.size_append, List.size_toArray, size_zeroCells, hzl, hnl, holen, ← Nat.add_mul]
                    congr 1; omega
                  have hdat := new_cells' (c := P.cellsOf e) (Q := fun y cs => Fit P Γ e y ∧ CRel P w Γ y cs) (es := as) (xs := bs) (olds := cellsIn c0 0 (k * P.cellsOf e)) (news := cellsIn c2 0 (bs.length * P.cellsOf e)) (rest := Builtin.zeroCells z.cells (grownCap w (k + bs.length) cap e - (k + bs.length))) (by rw [holen, hsl]) hnl (fun j y hy => by
                    have hj := (List.getElem?_eq_some_iff.1 hy).1
                    have hle2 : (j + 1) * P.cellsOf e ≤ k * P.cellsOf e := Nat.mul_le_mul_right _ (by omega)
                    rw [Nat.add_mul, Nat.one_mul] at hle2
                    have := hct j y hy
                    unfold cellsIn at this ⊢
                    rw [cut_cut _ _ _ _ _ hle2, Nat.zero_add]
                    exact this) hnd
                  exact fin (p := .arr w.heap.size (k + bs.length) (grownCap w (k + bs.length) cap e * P.cellsOf e) e false) (b' := w.heap.size) (w' := w.drew.alloc (.cells ((cellsIn c0 0 (k * P.cellsOf e)).toArray ++ (cellsIn c2 0 (bs.length * P.cellsOf e)).toArray ++ Builtin.zeroCells z.cells (grownCap w (k + bs.length) cap e - (k + bs.length))) e)) (by rw [hve, hvx]; exact hrun) ⟨rfl, rfl, rfl⟩ (by simp) (fun j hj _ => drew_alloc_old w _ hj) rfl (.inr (Nat.le_refl _))
                    ⟨rfl, hlen, by simp⟩ ⟨_, drew_alloc_new w _, hCs, Nat.mul_le_mul_right _ hge⟩ (drew_alloc_new w _) hdat (fun Γ' hp' => .own hp' hge (Nat.le_refl _) (by simp)) ⟨_, _, _, rfl⟩
        · cases h
      · cases h
    · cases h
  · cases h

/-! ### append onto the first ones of an array -/
theorem cnd_none {α : Type} {b : Bool} {x : Option α} {r : α} (h : cnd b x none = some r) : b = true ∧ x = some r := by
  rcases cnd_some h with h | ⟨_, h⟩
  · exact h
  · cases h
theorem appendSE_sound (T : TabOk P) {o : Oper} {st : St} {c : Call} (ho : o.op = .call c) (hc : c.callee = .builtin .append) {t : TypeId} (hty : c.argTypes.toList = [t, t]) {s x : A} (hargs : c.args.toList.map (ev st) = [s, x])
    {fl base : Nat} (hbl : base ≤ st.obs.length) {K : A → St → Option R} (h : appendSE P base t st s x K = some r) {Γ : Env} {w : World} {act : Act} (hr : Rel P fl st Γ w act) (hfb : fl ≤ base) {N : Act → World → Prop} {Q : Exit → Act → World → Prop}
    (hN : ∀ a st' Γ' w' v, K a st' = some r → VRel P w' Γ' a v → Rel P fl st' Γ' w' act → st.obs.length ≤ st'.obs.length → Step base Γ Γ' w w' → N (act.put o.dst v) w') : o.wp P act w N Q := by
  obtain ⟨p1, p2, hab, hp1, hp2⟩ := args_two hargs
  have hat : c.argTypes = #[t, t] := by
    cases hq : c.argTypes with
    | mk l => rw [hq] at hty; simp at hty; rw [hty]
  have hrunT : ∀ v w', (Builtin.append_ #[t, t] o.type #[act.eval p1, act.eval p2]).run P w = .ok v w' → N (act.put o.dst v) w' → o.wp P act w N Q := fun v w' hrun hn => by
    obtain ⟨cs, h1⟩ := run_builtin (P := P) (w := w) (act := act) ho hc
    unfold Oper.wp
    rw [h1]
    simp only [builtin, hab, hat]
    have e : (Array.map act.eval #[p1, p2]) = #[act.eval p1, act.eval p2] := by simp
    rw [e]
    simp only [Sem.run_bind, hrun, Result.andThen_ok, Sem.run_pure]
    exact hn
  have hs := hr.ev p1
  have hx := hr.ev p2
  rw [hp1] at hs
  rw [hp2] at hx
  unfold appendSE at h
  split at h
  · rename_i e q0 lo n fl0 xs hk hsrc0
    rw [hk] at hsrc0
    have hsrc0 : srcE st.obs e x = some xs := hsrc0
    split at h
    · rename_i e' es n0 f0 hob
      split at h
      · rename_i hcc
        simp only [Bool.and_eq_true, beq_iff_eq, decide_eq_true_eq, bne_iff_ne] at hcc
        obtain ⟨⟨⟨hee, hb0⟩, h0⟩, hp⟩ := hcc
        subst hee
        have hu := (ty_slice hk).2
        obtain ⟨i, z, hi, hz, hd, _⟩ := zero_ok T hp
        have hsz : i.size = P.cellsOf e := by simp [Program.cellsOf, hi]
        have hby : i.bytes = P.bytesOf e := by simp [Program.bytesOf, hi]
        have hzl : z.cells.size = P.cellsOf e := by simpa using (hd default (fun _ => False)).len T (plain_lt hp)
        have h' := cnd_none h
        clear h
        obtain ⟨hlo, h⟩ := h'
        have hlo : (lo : Int) = 0 := of_decide_eq_true hlo
        have hlo : lo = 0 := by omega
        subst hlo
        rcases cnd_some h with ⟨hne, h⟩ | ⟨_, h⟩
        · rcases cnd_some h with ⟨hroom, h⟩ | ⟨_, h⟩
          · obtain ⟨hr1, hr2⟩ := room_ok hroom
            have hl2 : len xs = xs.length := rfl
            rw [hl2] at hr1 hr2
            obtain ⟨q, cx, hvx, hq0, hqs⟩ := srcE_rel T hr.mem hsrc0 hx
            have hs := hs.one (by simp) rfl (by simp)
            generalize hve : act.eval p1 = ve at hs
            cases hs with
            | subNil hpo =>
              obtain ⟨_, h2, h3⟩ := (hr.mem.at (Wk.refl _) hpo hob).1
              subst h2; subst h3
              simp [bsel, bno, empty] at hne
            | sub hpo hln hcn hcs hcf hoff =>
              rename_i b bln size e2 full cap off
              obtain ⟨⟨he1, hsl, hnl, hsf⟩, ⟨c0, hcell, hc0s, hc0l⟩, hct⟩ := hr.mem.at (Wk.refl _) hpo hob
              subst he1
              have hct := hct trivial c0 _ _ hcell
              have hnfz : ¬ Γ.Fz b := hr.free q0 _ b _ (by omega) hpo rfl hob rfl
              have hcs : cap * P.cellsOf e ≤ size := by simpa using hcs
              have hln : n ≤ bln := by omega
              have hcutl : (cut es 0 n).length = n := by simp [cut]; omega
              have hlen : (app (cut es 0 n) xs).length = n + xs.length := by simp [app, hcutl]
              have hcutg : ∀ (i : Nat) y, (cut es 0 n)[i]? = some y → es[i]? = some y := fun i y hy => by
                simp only [cut, List.drop_zero, List.getElem?_take] at hy
                split at hy
                · exact hy
                · cases hy
              have hle0 : n * P.cellsOf e ≤ bln * P.cellsOf e := Nat.mul_le_mul_right _ hln
              have hstlen : st.obs.length ≤ ((st.obs.map (sweepO q0)).set q0 (.arr e (app (cut es 0 n) xs) false false true)).length := by simp
              have fin : ∀ {p : Place} {w' : World} {v : Value} {c' : Array Value} {b' : Nat}, (Builtin.append_ #[t, t] o.type #[act.eval p1, act.eval p2]).run P w = .ok v w' →
                  (w'.os = w.os ∧ w'.tape = w.tape ∧ w'.output = w.output) → w.heap.size ≤ w'.heap.size → (∀ j, j < w.heap.size → b ≠ j → w'.heap[j]? = w.heap[j]?) →
                  p.block = some b' → (b' = b ∨ w.heap.size ≤ b') → Shape (.arr e (app (cut es 0 n) xs) false false true) p → Backed P w' p → w'.heap[b']? = some (.cells c' e (0, 0)) → (∀ (i : Nat) y, (app (cut es 0 n) xs)[i]? = some y → DRel P w Γ.Fz e y (cellsIn c' (i * P.cellsOf e) (P.cellsOf e))) →
                  (∀ Γ', Γ'.β q0 = some p → CRel P w' Γ' (.sub q0 0 (n + xs.length) false) [v]) → (∃ a n c, v = .slice a n c) → o.wp P act w N Q := fun {p w' v c' b'} hrun hos hszw hfr hpb hb' hsh hbk hc' hcon hval hvs => by
                have hfzs : ∀ j, Γ.Fz j → w'.heap[j]? = w.heap[j]? := fun j hj => hfr j (hr.mem.fzlt j hj) (fun e => hnfz (e ▸ hj))
                obtain ⟨g1, g2⟩ := hr.regrow (base := base) hpo ⟨e, rfl⟩ hb0 hos hszw (fun j hj hne => hfr j hj (fun h => hne (by rw [h]; rfl))) (fun b1 hb1 => by simp [Place.block] at hb1; subst hb1; exact hnfz)
                  (fun b1 hb1 => by
                    rw [hpb] at hb1; cases hb1
                    rcases hb' with rfl | h
                    · exact ⟨hnfz, .inl rfl⟩
                    · exact ⟨fun hf => by have := hr.mem.fzlt _ hf; omega, .inr h⟩) hsh hbk (ob := .arr e (app (cut es 0 n) xs) false false true) (by
                    cases p with
                    | arr pb pl ps pe pf =>
                      simp [Place.block] at hpb; subst hpb
                      intro c3 ty fz hc3 j y hy
                      rw [hc'] at hc3; cases hc3
                      exact (hcon j y hy).mono (fun _ h => h) hfzs
                    | _ => trivial)
                refine hrunT v w' hrun ?_
                refine hN _ _ _ w' v h (.mk1 (hval _ (Env.put_at _ _ _)) rfl (by simp) ?_) g1 hstlen g2
                obtain ⟨a, n, c, rfl⟩ := hvs
                rfl
              by_cases hxe : xs = []
              · subst hxe
                refine fin (p := .arr b n size e false) (b' := b) (by rw [hve, hvx]; exact run_append_zero hu hi hcn) ⟨rfl, rfl, rfl⟩ (Nat.le_refl _) (fun _ _ _ => rfl) rfl (.inl rfl) ⟨rfl, hlen, by simp, by simp⟩ ⟨c0, hcell, hc0s, by omega⟩ hcell (fun i y hy => hct i y (hcutg i y (by simpa [app] using hy)))
                  (fun Γ' hp' => .sub hp' (by simp) hcn (by simpa using hcs) (by simp) hoff) ⟨_, _, _, rfl⟩
              · obtain ⟨a, rfl⟩ : ∃ a, q = some a := by cases q with | none => exact absurd (hq0 rfl) hxe | some a => exact ⟨a, rfl⟩
                obtain ⟨news, hsrc⟩ := hqs a rfl
                have hpos : 0 < xs.length := List.length_pos_iff.2 hxe
                have hfit0 : n * P.cellsOf e ≤ cap * P.cellsOf e := Nat.mul_le_mul_right _ hcn
                by_cases hroomc : n + xs.length ≤ cap
                · have hoff' : off = 0 := by
                    rcases hoff with h | h
                    · simpa using h
                    · omega
                  subst hoff'
                  have hle : (n + xs.length) * P.cellsOf e ≤ cap * P.cellsOf e := Nat.mul_le_mul_right _ hroomc
                  rw [Nat.add_mul] at hle
                  have hsl' := hsrc.len
                  have hrun := run_append_room (P := P) w t o.type e i hu hi b n cap c0 hcell a xs.length cx news (by rw [hsz]; exact hsrc.len) hsrc.cells hsrc.one hroomc (by rw [hsz]; omega)
                  rw [hsz] at hrun
                  have hfit : n * P.cellsOf e + news.length ≤ c0.toList.length := by simp; omega
                  have hblk := setRow_heap w b c0 (c0.toList.take (n * P.cellsOf e) ++ news ++ c0.toList.drop (n * P.cellsOf e + news.length)).toArray e (0, 0) hcell
                  refine fin (p := .arr b (n + xs.length) size e false) (b' := b) (w' := w.setRow b (c0.toList.take (n * P.cellsOf e) ++ news ++ c0.toList.drop (n * P.cellsOf e + news.length)).toArray) (by rw [hve, hvx]; exact hrun) ⟨rfl, rfl, rfl⟩ (by simp) (fun j hj hne => setRow_other w b j _ (fun h => hne h.symm)) rfl (.inl rfl)
                    ⟨rfl, hlen, by simp, by simp⟩ ⟨_, hblk, ?_, by rw [Nat.add_mul]; omega⟩ hblk ?_ (fun Γ' hp' => .sub hp' (by simp) hroomc (by simpa using hcs) (by simp) (.inl (by simp))) ⟨_, _, _, rfl⟩
                  · have := ow_length hfit
                    unfold ow at this
                    simp only [List.size_toArray]
                    rw [this]; simpa using hc0s
                  · exact room_cells (Q := fun y cs => DRel P w Γ.Fz e y cs) hcutl hsrc.len hfit (fun i y hy => hct i y (hcutg i y hy)) hsrc.data
                · have hsub : (some (⟨b, off, none⟩ : Addr)) = some ⟨b, off, none⟩ := rfl
                  have holen : (cellsIn c0 0 (n * P.cellsOf e)).length = n * P.cellsOf e := cellsIn_length (by omega)
                  have hcut : ∀ j u, (cellsIn c0 0 (n * P.cellsOf e))[j]? = some u → w.cell? ((⟨b, off, none⟩ : Addr).add j) = some u := fun j u hj => by
                    rcases hoff with h | h
                    · have h : off = 0 := by simpa using h
                      subst h
                      exact cells_add (cellsIn_at hcell 0 _) j u hj
                    · have : n = 0 := by omega
                      subst this
                      simp [cellsIn] at hj
                  have hrun := run_append_grow (P := P) w t o.type e i z hu hi hz ⟨b, off, none⟩ n cap (cellsIn c0 0 (n * P.cellsOf e)) (by rw [hsz]; exact holen) hcut a xs.length cx news (by rw [hsz]; exact hsrc.len) hsrc.cells (by omega) (by omega)
                    (growslice_fits (by omega) (by rw [hby]; omega))
                  have hge := grownCap_ge w (n + xs.length) cap e
                  have hCs : ((cellsIn c0 0 (n * P.cellsOf e)).toArray ++ news.toArray ++ Builtin.zeroCells z.cells (grownCap w (n + xs.length) cap e - (n + xs.length))).size = grownCap w (n + xs.length) cap e * P.cellsOf e := by
                    simp only [Array.size_append, List.size_toArray, size_zeroCells, hzl, hsrc.len, holen, ← Nat.add_mul]
                    congr 1; omega
                  have hdat := new_cells' (c := P.cellsOf e) (Q := fun y cs => DRel P w Γ.Fz e y cs) (es := cut es 0 n) (xs := xs) (olds := cellsIn c0 0 (n * P.cellsOf e)) (news := news) (rest := Builtin.zeroCells z.cells (grownCap w (n + xs.length) cap e - (n + xs.length))) (by rw [holen, hcutl]) hsrc.len (fun j y hy => by
                    have hj : j < n := by rw [← hcutl]; exact (List.getElem?_eq_some_iff.1 hy).1
                    have hle2 : (j + 1) * P.cellsOf e ≤ n * P.cellsOf e := Nat.mul_le_mul_right _ hj
                    rw [Nat.add_mul, Nat.one_mul] at hle2
                    have := hct j y (hcutg j y hy)
                    unfold cellsIn at this ⊢
                    rw [cut_cut _ _ _ _ _ hle2, Nat.zero_add]
                    exact this) hsrc.data
                  exact fin (p := .arr w.heap.size (n + xs.length) (grownCap w (n + xs.length) cap e * P.cellsOf e) e false) (b' := w.heap.size) (w' := w.drew.alloc (.cells ((cellsIn c0 0 (n * P.cellsOf e)).toArray ++ news.toArray ++ Builtin.zeroCells z.cells (grownCap w (n + xs.length) cap e - (n + xs.length))) e)) (by rw [hve, hvx]; exact hrun) ⟨rfl, rfl, rfl⟩ (by simp) (fun j hj _ => drew_alloc_old w _ hj) rfl (.inr (Nat.le_refl _))
                    ⟨rfl, hlen, by simp, by simp⟩ ⟨_, drew_alloc_new w _, hCs, Nat.mul_le_mul_right _ hge⟩ (drew_alloc_new w _) hdat (fun Γ' hp' => .sub hp' (by simp) hge (by simp) (by simp) (.inl (by simp))) ⟨_, _, _, rfl⟩
          · cases h
        · cases h
      · cases h
    · cases h
  · cases h

/-! ### append of zeros to nothing -/
theorem run_append_zeros {w : World} {t u ty e : TypeId} {k : IntKind} {i : TypeInfo} {z : Value} (ht : P.underlying t = some (.slice e)) (hu : P.underlying u = some (.int k)) (hi : P.info? e = some i) (hz : i.zero = some z) (hs0 : i.size ≠ 0)
    (n : Nat) (h0 : 0 < n) (h1 : n ≤ 2 ^ 44) (h48 : n * i.bytes ≤ 2 ^ 44) :
    (Builtin.append_ #[t, u] ty #[.slice none 0 0, .int .i64 n]).run P w =
      .ok (.slice (some ⟨w.heap.size, 0, none⟩) n (grownCap w n 0 e)) (w.drew.alloc (.cells (Builtin.zeroCells z.cells n ++ Builtin.zeroCells z.cells (grownCap w n 0 e - n)) e)) := by
  have hn : n ≠ 0 := by omega
  have e44 : (2 : Nat) ^ 44 = 17592186044416 := by decide
  rw [e44] at h1 h48
  have hw : IntKind.i64.wrap (n : Int) = n := IntWalk.i64_in _ (by omega)
  have hneg : ¬ ((n : Int) < 0) := by omega
  have hb : ¬ (281474976710656 < (n : Int) * (i.bytes : Int)) := by
    have := Int.ofNat_le.2 h48
    rw [Int.natCast_mul] at this
    omega
  have h63' : ¬ (9223372036854775807 < (n : Int)) := by omega
  have h48' : ¬ (281474976710656 < Builtin.nextslicecap n 0 * i.bytes) := by rw [nextslicecap_zero h0]; omega
  have hns : ¬ (n * i.size = 0) := by
    intro h; rcases Nat.mul_eq_zero.1 h with h | h
    · exact hn h
    · exact hs0 h
  simp [Builtin.append_, run_underlying ht, run_underlying hu, sizeOf, typeInfo, zeroValue, hi, hz, asInt, asIntOf, hw, hneg, hb, hn, h63', h48', hs0, Question.forced, run_firstCells_none, newRow, grownCap]
  intro h; exact absurd h hns
theorem appendZE_sound (T : TabOk P) {o : Oper} {st : St} {c : Call} (ho : o.op = .call c) (hc : c.callee = .builtin .append) {t t' : TypeId} (hty : c.argTypes.toList = [t, t']) {s x : A} (hargs : c.args.toList.map (ev st) = [s, x])
    {fl base : Nat} {K : A → St → Option R} (h : appendZE P t t' st s x K = some r) {Γ : Env} {w : World} {act : Act} (hr : Rel P fl st Γ w act) {N : Act → World → Prop} {Q : Exit → Act → World → Prop}
    (hN : ∀ a st' Γ' w' v, K a st' = some r → VRel P w' Γ' a v → Rel P fl st' Γ' w' act → st.obs.length ≤ st'.obs.length → Step base Γ Γ' w w' → N (act.put o.dst v) w') : o.wp P act w N Q := by
  obtain ⟨p1, p2, hab, hp1, hp2⟩ := args_two hargs
  have hat : c.argTypes = #[t, t'] := by
    cases hq : c.argTypes with
    | mk l => rw [hq] at hty; simp at hty; rw [hty]
  have hs := hr.ev p1
  have hx := hr.ev p2
  rw [hp1] at hs
  rw [hp2] at hx
  unfold appendZE at h
  split at h
  · rename_i e k n hk hk2
    split at h
    · rename_i hcc
      simp only [Bool.and_eq_true, bne_iff_ne] at hcc
      obtain ⟨h0, hp⟩ := hcc
      obtain ⟨i, z, hi, hz, hd, _⟩ := zero_ok T hp
      have hsz : i.size = P.cellsOf e := by simp [Program.cellsOf, hi]
      have hby : i.bytes = P.bytesOf e := by simp [Program.bytesOf, hi]
      have hzl : z.cells.size = P.cellsOf e := by simpa using (hd default (fun _ => False)).len T (plain_lt hp)
      rcases cnd_some h with ⟨hpos, h⟩ | ⟨_, h⟩
      · rcases cnd_some h with ⟨hroom, h⟩ | ⟨_, h⟩
        · have hpos : 0 < n := of_decide_eq_true hpos
          obtain ⟨m, rfl⟩ : ∃ m : Nat, n = m := ⟨n.toNat, by omega⟩
          have hm : 0 < m := by omega
          obtain ⟨hr1, hr2⟩ := room_ok' (n := m) hroom
          have hs := hs.one (by simp) rfl (by simp)
          generalize hve : act.eval p1 = ve at hs
          cases hs
          have hrun := run_append_zeros (P := P) (w := w) (ty := o.type) (ty_slice hk).2 (ty_int hk2).2 hi hz (by rw [hsz]; exact h0) m hm hr1 (by rw [hby]; exact hr2)
          have hwk := Wk.append st.obs [Ob.arr e (reps m (zeroD P 20 e)) false false true]
          have hob : (st.obs ++ [Ob.arr e (reps m (zeroD P 20 e)) false false true])[st.obs.length]? = some (.arr e (reps m (zeroD P 20 e)) false false true) := by simp
          have hdom : Γ.β st.obs.length = none := by
            cases hb : Γ.β st.obs.length with
            | none => rfl
            | some q => have := hr.mem.lt hb; omega
          have hge := grownCap_ge w m 0 e
          have hge : m ≤ grownCap w m 0 e := by simpa using hge
          have hreps : (reps m (zeroD P 20 e)).length = m := by simp [reps]
          have hsize : (Builtin.zeroCells z.cells m ++ Builtin.zeroCells z.cells (grownCap w m 0 e - m)).size = grownCap w m 0 e * P.cellsOf e := by
            simp only [Array.size_append, size_zeroCells, hzl, ← Nat.add_mul]
            congr 1; omega
          have hnl : (Builtin.zeroCells z.cells m).toList.length = (reps m (zeroD P 20 e)).length * P.cellsOf e := by simp [size_zeroCells, hzl, hreps]
          have hdat := new_cells' (c := P.cellsOf e) (Q := fun y cs => DRel P w Γ.Fz e y cs) (es := []) (xs := reps m (zeroD P 20 e)) (olds := []) (news := (Builtin.zeroCells z.cells m).toList) (rest := Builtin.zeroCells z.cells (grownCap w m 0 e - m)) (by simp) hnl (fun i y h => by simp at h) (fun j y hy => by
            have hj : j < m := by rw [← hreps]; exact (List.getElem?_eq_some_iff.1 hy).1
            have hy' : y = zeroD P 20 e := by
              simp only [reps, List.getElem?_replicate] at hy
              split at hy <;> simp_all
            subst hy'
            have hmp := madeCells_part z.cells m j hj (by omega)
            rw [hzl] at hmp
            have e3 : Builtin.zeroCells z.cells m = madeCells z.cells (m * P.cellsOf e) := by rw [← hzl]; rfl
            have e4 : ((Builtin.zeroCells z.cells m).toList.drop (j * P.cellsOf e)).take (P.cellsOf e) = z.cells.toList := by rw [e3]; exact hmp
            rw [e4]
            exact hd _ _)
          have e0 : (([] : List Value).toArray ++ (Builtin.zeroCells z.cells m).toList.toArray ++ Builtin.zeroCells z.cells (grownCap w m 0 e - m)) = Builtin.zeroCells z.cells m ++ Builtin.zeroCells z.cells (grownCap w m 0 e - m) := by simp
          rw [e0] at hdat
          obtain ⟨hg, hval⟩ := grow_block (hr.mem.wk hwk) hdom hob _ _ hsize (by rw [hreps]; exact hge) (by simp) (by simpa using hdat)
          unfold Oper.wp
          obtain ⟨cs, h1⟩ := run_builtin (P := P) (w := w) (act := act) ho hc
          rw [h1]
          have e5 : (c.args.map act.eval) = #[act.eval p1, act.eval p2] := by rw [hab]; simp
          simp only [builtin, hat, e5, hve, hx.int, Sem.run_bind, hrun, Result.andThen_ok, Sem.run_pure]
          rw [hreps] at hval hg
          refine hN _ _ _ _ _ h hval ?_ (by simp) (hg.step base)
          exact ⟨hg.mem, hg.free fl (hr.free.wk hwk (fun o ho => by
            cases hb : Γ.β o with
            | none => exact absurd hb ho
            | some q => exact hr.mem.lt hb)), fun t => (hr.tmps t).ext (fun _ _ => trivial) hg.ext, hr.size, hr.ndef⟩
        · cases h
      · cases h
    · cases h
  · cases h

/-! ### An entry of a map -/
theorem insI_find {k kv : IntKind} {x v : Int} : ∀ {es es' : List (A × A)} {en : List MapEntry} {j : Nat}, insI es k x kv v = some es' → es.length = en.length →
    (∀ (i : Nat) a e, es[i]? = some a → en[i]? = some e → ∃ n v', a = (.int k n, .int kv v') ∧ e.key = .int k n) → Instr.findNow (.int k) (.int k x) en j = some none ∧ es' = es ++ [(.int k x, .int kv v)]
  | [], es', en, j, h, hl, _ => by
    simp [insI] at h
    subst h
    have : en = [] := by cases en with | nil => rfl | cons => simp at hl
    subst this
    exact ⟨rfl, rfl⟩
  | a :: es, es', [], j, h, hl, _ => by simp at hl
  | a :: es, es', e :: en, j, h, hl, he => by
    obtain ⟨n, v', rfl, h1⟩ := he 0 a e rfl rfl
    simp only [insI] at h
    split at h
    · cases h
    · rename_i hd
      have hd : ¬ n = x := of_decide_eq_false hd
      split at h
      · rename_i l hl2
        cases h
        obtain ⟨g1, g2⟩ := insI_find (j := j + 1) hl2 (by simpa using hl) (fun i a e ha he' => he (i + 1) a e (by simpa using ha) (by simpa using he'))
        have hb : (x == n) = false := by simpa using Ne.symm hd
        exact ⟨by simp [Instr.findNow, h1, Instr.sameNow, hb, g1], by rw [g2]; rfl⟩
      · cases h

theorem insert_seq {o : Oper} {st : St} {t : TypeId} {m k v : Operand} (ho : o.op = .insert t m k v) {q : Nat} {kk vk : IntKind} {n x : Int} {kt vt : TypeId} {es es' : List (A × A)} (hm : ev st m = .mapr q) (hk : ev st k = .int kk n) (hv : ev st v = .int vk x)
    (hob : st.obs[q]? = some (.map kt vt es)) (hkt : ty P kt = .int kk) (hvt : ty P vt = .int vk) (hty : mapIs (ty P t) kt vt = true) {fl : Nat} (hfl : fl ≤ q) (hins : insI es kk n vk x = some es') {Γ : Env} {w : World} {act : Act} (h : Rel P fl st Γ w act)
    {N : Act → World → Prop} {Q : Exit → Act → World → Prop} (hN : ∀ w', Rel P fl (St.set { st with obs := st.obs.set q (.map kt vt es') } o.dst .junk) Γ w' (act.put o.dst undef) → (∀ base, Step base Γ Γ w w') → N (act.put o.dst undef) w') : o.wp P act w N Q := by
  have htt : P.underlying t = some (.map kt vt) := by
    unfold mapIs at hty
    split at hty
    · rename_i a b hab
      simp at hty
      obtain ⟨rfl, rfl⟩ := hty
      exact (ty_map hab).2
    · cases hty
  have h1 := h.ev m
  have h2 := h.ev k
  have h3 := h.ev v
  rw [hm] at h1; rw [hk] at h2; rw [hv] at h3
  have h1 := h1.one (by simp) rfl (by simp)
  generalize hve : act.eval m = ve at h1
  cases h1 with
  | mapr hp =>
    rename_i blk
    obtain ⟨_, ⟨en, cl, hen⟩, hct⟩ := h.mem.at (Wk.refl _) hp hob
    obtain ⟨g1, g2⟩ := hct trivial en cl hen
    have hty2 : ∀ (i : Nat) a e, es[i]? = some a → en.toList[i]? = some e → ∃ n v', a = (.int kk n, .int vk v') ∧ e.key = .int kk n := fun i a e ha he => by
      obtain ⟨k1, n1, k2, v1, e1, e2, e3, e4, e5⟩ := g2 i a e ha (by simpa using he)
      rw [(ty_int hkt).2] at e4; cases e4
      rw [(ty_int hvt).2] at e5; cases e5
      exact ⟨n1, v1, e1, e2⟩
    obtain ⟨f1, f2⟩ := insI_find (j := 0) hins (by simpa using g1) hty2
    subst f2
    have hkey : (Instr.findKey kt (.int kk n) en.toList).run P w = .ok none w := by
      simp [Instr.findKey, run_underlying (ty_int hkt).2, f1]
    have hobj : (getObj blk).run P w = .ok (.map en cl) w := by simp [getObj, Sem.run, hen]
    have hnf : ¬ Γ.Fz blk := h.free q _ blk _ hfl hp rfl hob rfl
    have hblt : blk < w.heap.size := (Array.getElem?_eq_some_iff.1 hen).1
    have hset : ∀ ob : Obj, (setObj blk ob).run P w = .ok () { w with heap := w.heap.setIfInBounds blk ob } := fun ob => by simp [setObj, Sem.run, hen]
    have hrun : (execOp act.eval o).run P w = .ok .skip { w with heap := w.heap.setIfInBounds blk (.map (en.push { key := .int kk n, val := .int vk x, born := cl }) (cl + 1)) } := by
      simp [execOp, ho, Instr.mapUpdate, run_underlying htt, hve, h2.int, h3.int, hobj, run_checkKey _ (ty_int hkt).2, hkey, hset]
    have hw : Wrote w { w with heap := w.heap.setIfInBounds blk (.map (en.push { key := .int kk n, val := .int vk x, born := cl }) (cl + 1)) } blk :=
      ⟨rfl, rfl, rfl, by simp, fun j hj => by simp [Array.getElem?_setIfInBounds_ne (Ne.symm hj)]⟩
    have hblk : ({ w with heap := w.heap.setIfInBounds blk (.map (en.push { key := .int kk n, val := .int vk x, born := cl }) (cl + 1)) } : World).heap[blk]? = some (.map (en.push { key := .int kk n, val := .int vk x, born := cl }) (cl + 1)) := by
      simp [hblt]
    have hm' := h.mem.write (cv' := fun _ => True) (ob := .map kt vt (es ++ [(.int kk n, .int vk x)])) hp rfl hw hnf trivial ⟨_, _, hblk⟩ (fun _ en' cl' he' => by
      rw [hblk] at he'; cases he'
      refine ⟨by simp [g1], fun i a e ha he => ?_⟩
      by_cases hi : i < es.length
      · rw [List.getElem?_append_left hi] at ha
        rw [Array.getElem?_push_lt (by omega)] at he
        exact g2 i a e ha (by rw [Array.getElem?_eq_getElem (by omega)]; exact he)
      · have hlt := (List.getElem?_eq_some_iff.1 ha).1
        have hi' : i = es.length := by simp at hlt; omega
        subst hi'
        rw [List.getElem?_append_right (Nat.le_refl _)] at ha
        simp at ha
        rw [g1, Array.getElem?_push_size] at he
        cases he
        exact ⟨kk, n, vk, x, ha.symm, rfl, rfl, (ty_int hkt).2, (ty_int hvt).2⟩) (fun _ _ _ => trivial)
    have hf' : Free fl Γ (st.obs.set q (.map kt vt (es ++ [(.int kk n, .int vk x)]))) := fun o' p' b' ob' hfl' hp' hb' hob' hrw => by
      by_cases e : o' = q
      · subst e
        rw [hp] at hp'; cases hp'
        cases hb'
        exact hnf
      · rw [List.getElem?_set_ne (Ne.symm e)] at hob'
        exact h.free o' p' b' ob' hfl' hp' hb' hob' hrw
    unfold Oper.wp
    rw [hrun]
    exact hN _ (h.set (hw.ext hnf) hm' hf' o.dst .junk) (hw.step hnf hp rfl)

/-! ### clear -/
theorem clear_seq (T : TabOk P) {o : Oper} {st : St} {c : Call} (ho : o.op = .call c) (hc : c.callee = .builtin .clear) {s : A} {t : TypeId} (hty : c.argTypes.toList = [t]) (hargs : c.args.toList.map (ev st) = [s]) {fl : Nat} {K : St → Option R} (h : clearE P fl t st s K = some r)
    {Γ : Env} {w : World} {act : Act} (hr : Rel P fl st Γ w act) {N : Act → World → Prop} {Q : Exit → Act → World → Prop}
    (hN : ∀ st' w', K st' = some r → Rel P fl st' Γ w' act → st'.obs.length = st.obs.length → (∀ base, Step base Γ Γ w w') → N (act.put o.dst (.tuple #[])) w') : o.wp P act w N Q := by
  obtain ⟨p1, hab, hp1⟩ := args_one hargs
  have hs := hr.ev p1
  rw [hp1] at hs
  have hat : c.argTypes = #[t] := by
    cases hq : c.argTypes with
    | mk l => rw [hq] at hty; simp at hty; rw [hty]
  have hrunT : ∀ w', (Builtin.clear_ #[t] o.type #[act.eval p1]).run P w = .ok (.tuple #[]) w' → N (act.put o.dst (.tuple #[])) w' → o.wp P act w N Q := fun w' hrun hn => by
    obtain ⟨cs, h1⟩ := run_builtin (P := P) (w := w) (act := act) ho hc
    unfold Oper.wp
    rw [h1]
    simp only [builtin, hab, hat]
    have e : (Array.map act.eval #[p1]) = #[act.eval p1] := by simp
    rw [e]
    simp only [Sem.run_bind, hrun, Result.andThen_ok, Sem.run_pure]
    exact hn
  unfold clearE at h
  split at h
  · rename_i e q lo n f hk
    have hu := (ty_slice hk).2
    split at h
    · rename_i e' es nn f0 hob
      split at h
      · rename_i hcc
        simp only [Bool.and_eq_true, beq_iff_eq, decide_eq_true_eq, bne_iff_ne] at hcc
        obtain ⟨⟨⟨hee, hfl⟩, hpl⟩, h0⟩ := hcc
        subst hee
        have hs := hs.one (by simp) rfl (by simp)
        generalize hve : act.eval p1 = ve at hs
        have stay : n = 0 → lo ≤ es.length → (∃ a cap, ve = .slice a 0 cap) → o.wp P act w N Q := fun hn hlo ⟨a, cap, hv⟩ => by
          subst hn
          have e1 : app (cut es 0 lo) (app (reps 0 (zeroD P 20 e)) (cut es (nadd lo 0) (len es))) = es := by
            simp only [app, cut, reps, nadd, List.replicate_zero, List.nil_append, List.drop_zero, Nat.add_zero]
            rw [List.take_of_length_le (l := es.drop lo) (by simp [len]), List.take_append_drop]
          rw [e1] at h
          have e2 : st.obs.set q (.arr e es nn f0 true) = st.obs := by
            apply List.ext_getElem?
            intro i
            rw [List.getElem?_set]
            split
            · rename_i hi; subst hi
              rw [if_pos (List.getElem?_eq_some_iff.1 hob).1]; exact hob.symm
            · rfl
          rw [e2] at h
          refine hrunT w ?_ (hN st w h hr rfl (fun _ => Step.refl _ _ _))
          rw [hve, hv]
          cases a <;> simp [Builtin.clear_, run_underlying hu]
        cases hs with
        | subNil hp => exact stay rfl (Nat.zero_le _) ⟨_, _, rfl⟩
        | sub hp hln hnc hcs hfu hoff =>
          rename_i b bln size e2 full cap off
          obtain ⟨⟨he2, hlen, hnl, hfu2⟩, ⟨c0, hcell, hc0s, hc0l⟩, hct⟩ := hr.mem.at (Wk.refl _) hp hob
          subst he2
          by_cases hn0 : n = 0
          · subst hn0
            exact stay rfl (by omega) ⟨_, _, rfl⟩
          · have hoff' : off = lo * P.cellsOf e := hoff.resolve_right (by omega)
            subst hoff'
            have hct := hct trivial c0 _ _ hcell
            have hnf : ¬ Γ.Fz b := hr.free q _ b _ hfl hp rfl hob rfl
            obtain ⟨i, z, hi, hz, hd, _⟩ := zero_ok T hpl
            have hzl : z.cells.size = P.cellsOf e := by simpa using (hd default (fun _ => False)).len T (plain_lt hpl)
            have hle1 : (lo + n) * P.cellsOf e ≤ bln * P.cellsOf e := Nat.mul_le_mul_right _ hln
            rw [Nat.add_mul] at hle1
            have hzs : (Builtin.zeroCells z.cells n).toList.length = n * P.cellsOf e := by simp [size_zeroCells, hzl]
            have hpart : ∀ j, j < n → ((Builtin.zeroCells z.cells n).toList.drop (j * P.cellsOf e)).take (P.cellsOf e) = z.cells.toList := fun j hj => by
              have hmp := madeCells_part z.cells n j hj (by omega)
              rw [hzl] at hmp
              have e3 : Builtin.zeroCells z.cells n = madeCells z.cells (n * P.cellsOf e) := by rw [← hzl]; rfl
              rw [e3]
              exact hmp
            have hone : ∀ v ∈ (Builtin.zeroCells z.cells n).toList, v.oneCell' = true := one_of_pieces hzs fun j hj => by rw [hpart j hj]; exact (hd w Γ.Fz).oneC
            generalize hnews : (Builtin.zeroCells z.cells n).toList = news at hzs hpart hone
            have hfit : lo * P.cellsOf e + news.length ≤ c0.size := by omega
            have hthere := there_of (n := news.length) hcell hfit
            have hst := run_storeCells_cells (P := P) b (lo * P.cellsOf e) news 0 w (fun j hj => by simpa using (hthere j hj).1) (fun j hj => by simpa using (hthere j hj).2) hone
            simp only [Nat.add_zero] at hst
            obtain ⟨c', g1, g2⟩ := setCells_heap b news (lo * P.cellsOf e) w c0 _ hcell hfit
            obtain ⟨s1, s2, s3, s4⟩ := setCells_os b news (lo * P.cellsOf e) w
            have hW : Wrote w (w.setCells b (lo * P.cellsOf e) news) b := ⟨s1, s2, s3, s4, fun k hk => setCells_other b _ _ _ k hk⟩
            have hsz' : c'.size = c0.size := by rw [← Array.length_toList, g2, ow_length (by simpa using hfit)]; simp
            have hget : ∀ j, (app (cut es 0 lo) (app (reps n (zeroD P 20 e)) (cut es (nadd lo n) (len es))))[j]? = if j < lo then es[j]? else if j < lo + n then some (zeroD P 20 e) else es[j]? := fun j => by
              have l1 : (cut es 0 lo).length = lo := by simp [cut]; omega
              unfold app
              by_cases h1 : j < lo
              · rw [if_pos h1, List.getElem?_append_left (by omega)]
                simp [cut, List.getElem?_take, h1]
              · rw [if_neg h1, List.getElem?_append_right (by omega), l1]
                by_cases h2 : j < lo + n
                · rw [if_pos h2, List.getElem?_append_left (by simp [reps]; omega)]
                  simp [reps, List.getElem?_replicate]; omega
                · rw [if_neg h2, List.getElem?_append_right (by simp [reps]; omega)]
                  simp only [cut, reps, nadd, len, List.length_replicate]
                  rw [List.getElem?_take, List.getElem?_drop, show lo + n + (j - lo - n) = j by omega]
                  split
                  · rfl
                  · rw [List.getElem?_eq_none (by omega)]
            have hnewlen : (app (cut es 0 lo) (app (reps n (zeroD P 20 e)) (cut es (nadd lo n) (len es)))).length = es.length := by
              simp [app, cut, reps, nadd, len]; omega
            have hcon : Content P (w.setCells b (lo * P.cellsOf e) news) Γ (.arr e (app (cut es 0 lo) (app (reps n (zeroD P 20 e)) (cut es (nadd lo n) (len es)))) nn f0 true) (.arr b bln size e full) := by
              intro c2 ty fz h2 j y hy
              rw [g1] at h2; cases h2
              unfold cellsIn
              rw [g2]
              rw [hget] at hy
              have hold : ∀ y, es[j]? = some y → (j * P.cellsOf e + P.cellsOf e ≤ lo * P.cellsOf e ∨ lo * P.cellsOf e + news.length ≤ j * P.cellsOf e) → DRel P (w.setCells b (lo * P.cellsOf e) news) Γ.Fz e y (((ow c0.toList (lo * P.cellsOf e) news).drop (j * P.cellsOf e)).take (P.cellsOf e)) := fun y hy hap => by
                rw [ow_apart (by simpa using hfit) hap]
                exact (hct j y hy).mono (fun _ h => h) (hW.ext hnf).fzs
              split at hy
              · rename_i h1
                have : (j + 1) * P.cellsOf e ≤ lo * P.cellsOf e := Nat.mul_le_mul_right _ h1
                rw [Nat.add_mul, Nat.one_mul] at this
                exact hold y hy (.inl this)
              · split at hy
                · rename_i h1 h2
                  cases hy
                  have e4 : j * P.cellsOf e = lo * P.cellsOf e + (j - lo) * P.cellsOf e := by rw [← Nat.add_mul]; congr 1; omega
                  have hle2 : (j - lo + 1) * P.cellsOf e ≤ n * P.cellsOf e := Nat.mul_le_mul_right _ (by omega)
                  rw [Nat.add_mul, Nat.one_mul] at hle2
                  have e5 : ((ow c0.toList (lo * P.cellsOf e) news).drop (j * P.cellsOf e)).take (P.cellsOf e) = (news.drop ((j - lo) * P.cellsOf e)).take (P.cellsOf e) := by
                    apply List.ext_getElem?
                    intro m
                    simp only [List.getElem?_take, List.getElem?_drop]
                    split
                    · rw [ow_get (by simpa using hfit), if_neg (by omega), if_pos (by omega)]
                      congr 1; omega
                    · rfl
                  rw [e5, hpart _ (by omega)]
                  exact hd _ _
                · rename_i h1 h2
                  have : (lo + n) * P.cellsOf e ≤ j * P.cellsOf e := Nat.mul_le_mul_right _ (by omega)
                  rw [Nat.add_mul] at this
                  exact hold y hy (.inr (by omega))
            have hm' := hr.mem.write (cv' := fun _ => True) hp rfl hW hnf (ob := .arr e (app (cut es 0 lo) (app (reps n (zeroD P 20 e)) (cut es (nadd lo n) (len es)))) nn f0 true) ⟨rfl, by rw [hnewlen]; exact hlen, hnl, hfu2⟩ ⟨c', g1, by omega, by omega⟩ (fun _ => hcon) (fun _ _ _ => trivial)
            have hf' : Free fl Γ (st.obs.set q (.arr e (app (cut es 0 lo) (app (reps n (zeroD P 20 e)) (cut es (nadd lo n) (len es)))) nn f0 true)) := fun o' p' b' ob' hfl' hp' hb' hob' hrw => by
              by_cases e : o' = q
              · subst e
                rw [hp] at hp'; cases hp'
                cases hb'
                exact hnf
              · rw [List.getElem?_set_ne (Ne.symm e)] at hob'
                exact hr.free o' p' b' ob' hfl' hp' hb' hob' hrw
            refine hrunT _ ?_ (hN _ _ h ⟨hm', hf', fun t => (hr.tmps t).ext (fun _ _ => trivial) (hW.ext hnf), hr.size, hr.ndef⟩ (by simp) (hW.step hnf hp rfl))
            rw [hve]
            obtain ⟨n', rfl⟩ : ∃ k, n = k + 1 := ⟨n - 1, by omega⟩
            simp [Builtin.clear_, run_underlying hu, zeroValue, typeInfo, hi, hz, hnews, hst]
      · cases h
    · cases h
  · cases h

end
end Go.Ev
