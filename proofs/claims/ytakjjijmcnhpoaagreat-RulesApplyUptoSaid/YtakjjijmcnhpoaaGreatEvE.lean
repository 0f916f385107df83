/- The evaluator E: the operations that write nothing (5). The evaluator E: the operations that write nothing (6): lookups, structs, slices in one piece. The evaluator E: structs and slices in one piece; all operations that write nothing. -/
import Derived.Test.YtakjjijmcnhpoaaGreatEvD
import Derived.Laws.Tables
namespace Go.Ev
open Go

section
variable {P : Program} {lim : Option Nat} {o : Oper} {st : St} {R : Type} {K : A → List Ob → Option R} {r : R}

theorem run_size {w : World} {t : TypeId} (h : P.cellsOf t ≠ 0) : (sizeOf t).run P w = .ok (P.cellsOf t) w := by
  cases hi : P.info? t with
  | none => simp [Program.cellsOf, hi] at h
  | some i => simp [sizeOf, typeInfo, hi, Program.cellsOf]

theorem offAt_snoc (T : TabOk P) : ∀ {p : List Nat} {t s ft : TypeId} {f off : Nat} {fs : List (TypeId × Nat)} {fo : Nat}, offAt P t p = some (s, off) → ty P s = .struct fs → fs[f]? = some (ft, fo) → offAt P t (p ++ [f]) = some (ft, off + fo)
  | [], t, s, ft, f, off, fs, fo, h, hs, hf => by
    simp [offAt] at h
    obtain ⟨rfl, rfl⟩ := h
    simp [offAt, hs, hf]
  | i :: p, t, s, ft, f, off, fs, fo, h, hs, hf => by
    simp only [offAt] at h
    split at h
    · rename_i gs hk
      split at h
      · rename_i gt go hg
        split at h
        · rename_i u k hu
          cases h
          have := offAt_snoc T hu hs hf
          simp [offAt, hk, hg, this, Nat.add_assoc]
        · cases h
      · cases h
    · cases h

theorem po_fieldAddr (T : TabOk P) {s : TypeId} {x : Operand} {f : Nat} (ho : o.op = .fieldAddr s x f) (h : pureOp P lim o st K = some r) : POut P lim o st K r := by
  simp only [pureOp, ho, fieldAddrE] at h
  split at h
  · rename_i fs hk
    split at h
    · rename_i ft fo hf
      split at h
      · cases h
      · rename_i h0
        have h0 : P.cellsOf ft ≠ 0 := by simpa using h0
        obtain ⟨hlt, fa, hu, rfl⟩ := ty_struct hk
        have hf0 := hf
        simp at hf
        obtain ⟨fd, hfd, rfl, rfl⟩ := hf
        have hrun : ∀ (w : World) (act : Act) b off, act.eval x = .pointer (some ⟨b, off, none⟩) → (execOp act.eval o).run P w = .ok (.value (.pointer (some ⟨b, off + fd.offset, none⟩))) w := fun w act b off hx => by
          simp [execOp, ho, Instr.fieldAt, run_underlying hu, hfd, hx, Instr.sureAddr, fieldPlace, run_size h0, h0, Addr.add_mid]
        split at h
        · rename_i q path hx
          split at h
          · rename_i t a hob
            split at h
            · rename_i hc
              have hc : typeAt P t path = some s := by simpa using hc
              refine ⟨_, _, h, .still fun obsS cv Γ w act c => ?_⟩
              have h1 := c.ops x (by simp [ho, Op.operands])
              rw [hx] at h1
              have h1 := h1.one (by simp) rfl (by simp)
              generalize hve : act.eval x = ve at h1
              cases h1 with
              | ref hp hoff =>
                obtain ⟨hs, _⟩ := c.mem.at c.wk0 hp hob
                have hs : t = _ := hs
                subst hs
                obtain ⟨o', ho'⟩ := typeAt_off hc
                rw [hoff] at ho'; cases ho'
                exact ⟨_, hrun w act _ _ hve, .mk1 (.ref hp (offAt_snoc T hoff hk hf0)) rfl (by simp) rfl⟩
            · cases h
          · cases h
        · rename_i q i path hx
          split at h
          · rename_i e es nilable fl rw hob
            split at h
            · rename_i hc
              have hc : typeAt P e path = some s := by simpa using hc
              refine ⟨_, _, h, .still fun obsS cv Γ w act c => ?_⟩
              have h1 := c.ops x (by simp [ho, Op.operands])
              rw [hx] at h1
              have h1 := h1.one (by simp) rfl (by simp)
              generalize hve : act.eval x = ve at h1
              cases h1 with
              | eref hp hi hoff =>
                obtain ⟨hs, _⟩ := c.mem.at c.wk0 hp hob
                obtain ⟨rfl, _⟩ := hs
                obtain ⟨o', ho'⟩ := typeAt_off hc
                rw [hoff] at ho'; cases ho'
                refine ⟨_, hrun w act _ _ hve, ?_⟩
                rw [Nat.add_assoc]
                exact .mk1 (.eref hp hi (offAt_snoc T hoff hk hf0)) rfl (by simp) rfl
            · cases h
          · cases h
        · rename_i t d hx
          split at h
          · rename_i hc
            have hc : t = s := by simpa using hc
            subst hc
            refine ⟨_, _, h, .still fun obsS cv Γ w act c => ?_⟩
            have h1 := c.ops x (by simp [ho, Op.operands])
            rw [hx] at h1
            have h1 := h1.one (by simp) rfl (by simp)
            generalize hve : act.eval x = ve at h1
            cases h1 with
            | dref hfz hl hcs hd =>
              rename_i b off cs
              refine ⟨_, hrun w act _ _ hve, ?_⟩
              cases hd with
              | st ht _ _ hx' hh =>
                rw [hu] at ht; cases ht
                refine .mk1 (.dref hfz (hx' f fd hfd) ?_ (hh f fd hfd)) rfl (by simp) rfl
                intro i v hv
                rw [List.getElem?_take] at hv
                split at hv
                · rw [List.getElem?_drop] at hv
                  have := hcs _ _ hv
                  rwa [← Nat.add_assoc] at this
                · cases hv
              | int h => rw [hu] at h; cases h
              | bool h => rw [hu] at h; cases h
              | str h => rw [hu] at h; cases h
              | nil h => rw [hu] at h; cases h
              | slE h => rw [hu] at h; cases h
              | sl h => rw [hu] at h; cases h
          · cases h
        · cases h
    · cases h
  · cases h

/-- A part of a struct's value. -/
theorem run_part {w : World} {Γ : Env} {t : TypeId} {d : TypeDesc} {a : A} {c : Array Value} {off : Nat} (hr : CRel P w Γ a ((c.toList.drop off).take (P.cellsOf t))) (hu : P.underlying t = some d) (hk : d.isRow = true ↔ a.isS = true)
    (hl : ((c.toList.drop off).take (P.cellsOf t)).length = P.cellsOf t) (hj : a ≠ .junk) : ∃ v, (part t c off).run P w = .ok v w ∧ VRel P w Γ a v := by
  obtain ⟨i, hi⟩ := info_of_underlying hu
  have hs : (sizeOf t).run P w = .ok (P.cellsOf t) w := by simp [sizeOf, typeInfo, hi, Program.cellsOf]
  cases hsS : a.isS with
  | true =>
    have hd := hk.2 hsS
    have hagg : (isAgg t).run P w = .ok true w := by
      unfold isAgg
      rw [Sem.run_bind, run_underlying hu w]
      cases d <;> simp_all
    refine ⟨.agg (c.extract off (off + P.cellsOf t)), by simp [part, hagg, hs], .mkS ?_ hsS (VRel.notup hr)⟩
    have : (c.extract off (off + P.cellsOf t)).toList = (c.toList.drop off).take (P.cellsOf t) := by simp [List.extract_eq_take_drop]
    rw [this]; exact hr
  | false =>
    obtain ⟨v, hv⟩ := hr.single hj hsS
    have hd : d.isRow = false := by cases h : d.isRow with | false => rfl | true => rw [hk.1 h] at hsS; cases hsS
    have hagg : (isAgg t).run P w = .ok false w := by
      unfold isAgg
      rw [Sem.run_bind, run_underlying hu w]
      cases d <;> simp_all
    have hone := hr.oneC v (by rw [hv]; simp)
    rw [hv] at hr
    have hc : c[off]? = some v := by
      have : ((c.toList.drop off).take (P.cellsOf t))[0]? = some v := by rw [hv]; rfl
      rw [List.getElem?_take] at this
      split at this
      · simpa using this
      · cases this
    exact ⟨v, by simp [part, hagg, hc], .mk1 hr hsS (VRel.notup hr) (VShape_of hone hsS)⟩

theorem po_field (T : TabOk P) {t : TypeId} {x : Operand} {f : Nat} (ho : o.op = .field t x f) (h : pureOp P lim o st K = some r) : POut P lim o st K r := by
  simp only [pureOp, ho] at h
  split at h
  · rename_i hc
    simp only [Bool.and_eq_true, beq_iff_eq] at hc
    obtain ⟨⟨hs, hty⟩, hf⟩ := hc
    obtain ⟨ft, hta⟩ := Option.isSome_iff_exists.1 hf
    split at h
    · rename_i a ha
      split at h
      · rename_i hft
        refine ⟨_, _, h, .still fun obsS cv Γ w act c => ?_⟩
        have h1 := c.ops x (by simp [ho, Op.operands])
        have hnt : ∀ vs, ev st x ≠ .tup vs := by intro vs e; rw [e] at hs; cases hs
        obtain ⟨cs, e1, hr⟩ := (h1.to1 hnt).agg hs
        obtain ⟨off, hoff⟩ := typeAt_off hta
        have hfit : Fit P Γ t (ev st x) := by
          revert hs hty
          cases ev st x <;> simp [A.isS, A.type, Fit]
        have hlen := fields_len hr hs hty
        obtain ⟨g1, g2⟩ := getA_rel T hr hfit hlen ha hoff
        have hle := offAt_le T hoff
        rw [hta] at hft
        obtain ⟨d, hu, hk, hl, hj⟩ := fits_kind T (obs := st.obs) hft g1
        obtain ⟨v, h2, h3⟩ := run_part g1 hu hk hl hj
        -- the field's place
        simp only [offAt] at hoff
        split at hoff
        · rename_i fs hk'
          obtain ⟨hlt, fa, hu', rfl⟩ := ty_struct hk'
          split at hoff
          · rename_i gt go hg
            simp at hg
            obtain ⟨fd, hfd, rfl, rfl⟩ := hg
            simp at hoff
            obtain ⟨rfl, rfl⟩ := hoff
            exact ⟨v, by simp [execOp, ho, Instr.field, run_underlying hu', hfd, e1, asAgg, h2], h3⟩
          · cases hoff
        · cases hoff
      · cases h
    · cases h
  · cases h

theorem run_index {w : World} {act : Act} {t e : TypeId} {x i : Operand} (ho : o.op = .indexAddr t x i) (hu : P.underlying t = some (.slice e)) (h0 : P.cellsOf e ≠ 0) {b off n cap : Nat} {k : IntKind} {j : Nat}
    (hx : act.eval x = .slice (some ⟨b, off, none⟩) n cap) (hi : act.eval i = .int k j) (hj : j < n) :
    (execOp act.eval o).run P w = .ok (.value (.pointer (some ⟨b, off + j * P.cellsOf e, none⟩))) w := by
  simp [execOp, ho, Instr.indexAt, hi, asIntOf, hx, run_underlying hu, hj, run_size h0, Addr.add_mid]

theorem inb_nat {i : Int} {n : Nat} (h : inb i n = true) : ∃ j : Nat, i = j ∧ j < n := by
  obtain ⟨h1, h2⟩ : 0 ≤ i ∧ i < n := of_decide_eq_true h
  exact ⟨i.toNat, by omega, by omega⟩
theorem splitIx_some {i : Int} {K : Nat → Option R} : ∀ {m j : Nat}, splitIx i j m K = some r → ∃ k : Nat, i = k ∧ j ≤ k ∧ k < j + m ∧ K k = some r
  | 0, j, h => by simp [splitIx] at h
  | m + 1, j, h => by
    simp only [splitIx] at h
    rcases cnd_some h with ⟨h1, h⟩ | ⟨_, h⟩
    · exact ⟨j, of_decide_eq_true h1, Nat.le_refl _, by omega, h⟩
    · obtain ⟨k, h1, h2, h3, h4⟩ := splitIx_some h
      exact ⟨k, h1, by omega, by omega, h4⟩
theorem po_indexAddr {t : TypeId} {x i : Operand} (ho : o.op = .indexAddr t x i) (h : pureOp P lim o st K = some r) : POut P lim o st K r := by
  simp only [pureOp, ho] at h
  split at h
  · rename_i e k n hk hi
    unfold indexE at h
    split at h
    · rename_i e' nil es f hx
      split at h
      · rename_i hc
        simp only [Bool.and_eq_true, beq_iff_eq, bne_iff_ne, ne_eq] at hc
        obtain ⟨rfl, h0⟩ := hc
        rcases cnd_some h with ⟨hin, h⟩ | ⟨_, h⟩
        · obtain ⟨j, rfl, hj⟩ := inb_nat hin
          refine ⟨_, _, h, .still fun obsS cv Γ w act c => ?_⟩
          have h1 := c.ops x (by simp [ho, Op.operands])
          have h2 := c.ops i (by simp [ho, Op.operands])
          rw [hx] at h1; rw [hi] at h2
          have h1 := h1.one (by simp) rfl (by simp)
          generalize hve : act.eval x = ve at h1
          cases h1 with
          | snapNil hn he => subst he; simp [len] at hj
          | snapE hn he => subst he; simp [len] at hj
          | snap hn hf hl hcc hfull css hcell hd =>
            subst hl
            have hj : j < es.length := hj
            obtain ⟨g1, g2⟩ := hcell j hj
            exact ⟨_, run_index ho (ty_slice hk).2 h0 hve h2.int hj, .mk1 (.dref hf g1 g2 (hd j _ (by unfold at_; rw [List.getD_eq_getElem?_getD]; show es[j]? = some (es[j]?.getD .bad); simp [hj]))) rfl (by simp) rfl⟩
        · cases h
      · cases h
    · rename_i q hx
      split at h
      · rename_i e' es nilable f rw hob
        split at h
        · rename_i hc
          simp only [Bool.and_eq_true, beq_iff_eq, bne_iff_ne, ne_eq] at hc
          obtain ⟨rfl, h0⟩ := hc
          rcases cnd_some h with ⟨hin, h⟩ | ⟨_, h⟩
          · obtain ⟨j, rfl, hj⟩ := inb_nat hin
            refine ⟨_, _, h, .still fun obsS cv Γ w act c => ?_⟩
            have h1 := c.ops x (by simp [ho, Op.operands])
            have h2 := c.ops i (by simp [ho, Op.operands])
            rw [hx] at h1; rw [hi] at h2
            have h1 := h1.one (by simp) rfl (by simp)
            generalize hve : act.eval x = ve at h1
            cases h1 with
            | ownNil hp =>
              obtain ⟨_, _, he⟩ := (c.mem.at c.wk0 hp hob).1
              subst he; simp [len] at hj
            | own hp hcc hsz hfull =>
              obtain ⟨rfl, hlen, _⟩ := (c.mem.at c.wk0 hp hob).1
              have hj : j < es.length := hj
              refine ⟨_, run_index ho (ty_slice hk).2 h0 hve h2.int (by omega), ?_⟩
              rw [Nat.zero_add]
              exact .mk1 (.eref (off := 0) hp (by show j < _; omega) rfl) rfl (by simp) rfl
          · cases h
        · cases h
      · rename_i e' as f rw hob
        split at h
        · rename_i hc
          simp only [Bool.and_eq_true, beq_iff_eq, bne_iff_ne, ne_eq] at hc
          obtain ⟨rfl, h0⟩ := hc
          · obtain ⟨j, rfl, _, hj, h⟩ := splitIx_some h
            rw [Nat.zero_add] at hj
            refine ⟨_, _, h, .still fun obsS cv Γ w act c => ?_⟩
            have h1 := c.ops x (by simp [ho, Op.operands])
            have h2 := c.ops i (by simp [ho, Op.operands])
            rw [hx] at h1; rw [hi] at h2
            have h1 := h1.one (by simp) rfl (by simp)
            generalize hve : act.eval x = ve at h1
            cases h1 with
            | ownNil hp =>
              have := (c.mem.at c.wk0 hp hob).1
              simp [Shape] at this
            | own hp hcc hsz hfull =>
              obtain ⟨rfl, hlen, _⟩ := (c.mem.at c.wk0 hp hob).1
              refine ⟨_, run_index ho (ty_slice hk).2 h0 hve h2.int (by omega), ?_⟩
              rw [Nat.zero_add]
              exact .mk1 (.eref (off := 0) hp (by show j < _; omega) rfl) rfl (by simp) rfl
        · cases h
      · cases h
    · rename_i q lo m f hx
      split at h
      · rename_i e' es nilable f' rw hob
        split at h
        · rename_i hc
          simp only [Bool.and_eq_true, beq_iff_eq, bne_iff_ne, ne_eq] at hc
          obtain ⟨rfl, h0⟩ := hc
          rcases cnd_some h with ⟨hin, h⟩ | ⟨_, h⟩
          · obtain ⟨j, rfl, hj⟩ := inb_nat hin
            refine ⟨_, _, h, .still fun obsS cv Γ w act c => ?_⟩
            have h1 := c.ops x (by simp [ho, Op.operands])
            have h2 := c.ops i (by simp [ho, Op.operands])
            rw [hx] at h1; rw [hi] at h2
            have h1 := h1.one (by simp) rfl (by simp)
            generalize hve : act.eval x = ve at h1
            cases h1 with
            | subNil hp => omega
            | sub hp hl hcc hsz hfull hoff =>
              obtain ⟨rfl, hlen, _⟩ := (c.mem.at c.wk0 hp hob).1
              refine ⟨_, run_index ho (ty_slice hk).2 h0 hve h2.int hj, ?_⟩
              rcases hoff with hoff | hoff
              · rw [hoff, ← Nat.add_mul]
                exact .mk1 (.eref (off := 0) hp (by show lo + j < _; omega) rfl) rfl (by simp) rfl
              · omega
          · cases h
        · cases h
      · cases h
    · cases h
  · cases h

theorem po_index {t : TypeId} {x i : Operand} (ho : o.op = .index t x i) (h : pureOp P lim o st K = some r) : POut P lim o st K r := by
  simp only [pureOp, ho] at h
  split at h
  · rename_i s k n hk hx hi
    rcases cnd_some h with ⟨hin, h⟩ | ⟨_, h⟩
    · obtain ⟨j, rfl, hj⟩ := inb_nat hin
      refine ⟨_, _, h, .still fun obsS cv Γ w act c => ?_⟩
      have h1 := c.ops x (by simp [ho, Op.operands])
      have h2 := c.ops i (by simp [ho, Op.operands])
      rw [hx] at h1; rw [hi] at h2
      obtain ⟨u, e1, e2⟩ := h1.str
      subst e2
      have hj : j < u.data.toList.length := hj
      have hj : j < u.size := by simp only [Array.length_toList] at hj; exact hj
      have hu : u[j]? = some u[j] := by simp [hj]
      refine ⟨.int .u8 u[j].toNat, ?_, ?_⟩
      · simp [execOp, ho, Instr.index, h2.int, asIntOf, run_underlying (ty_str hk).2, e1, hu]
      · have : sat u.data.toList (tn j) = u[j].toNat := by
          show ((u.data.toList.getD j 0).toNat : Int) = _
          rw [List.getD_eq_getElem?_getD]
          have : u.data.toList[j]? = some u[j] := by
            rw [Array.getElem?_toList, Array.getElem?_eq_getElem hj]; rfl
          rw [this]; rfl
        rw [← this]; exact .mkInt
    · cases h
  · cases h

end
end Go.Ev

namespace Go.Ev
open Go

section
variable {P : Program} {lim : Option Nat} {o : Oper} {st : St} {R : Type} {K : A → List Ob → Option R} {r : R}

theorem lookI_find {k : IntKind} {kv : IntKind} {x : Int} {z : Int} : ∀ {es : List (A × A)} {en : List MapEntry} {v : Int} {b : Bool} {j : Nat}, lookI es x z = some (v, b) → es.length = en.length →
    (∀ (i : Nat) a e, es[i]? = some a → en[i]? = some e → ∃ n v', a = (.int k n, .int kv v') ∧ e.key = .int k n ∧ e.val = .int kv v') →
    (∃ i w, Instr.findNow (.int k) (.int k x) en j = some (some (i, w)) ∧ w = .int kv v ∧ b = true) ∨ (Instr.findNow (.int k) (.int k x) en j = some none ∧ v = z ∧ b = false)
  | [], en, v, b, j, h, hl, _ => by
    simp [lookI] at h
    obtain ⟨rfl, rfl⟩ := h
    have : en = [] := by cases en with | nil => rfl | cons => simp at hl
    subst this
    exact .inr ⟨rfl, rfl, rfl⟩
  | a :: es, [], v, b, j, h, hl, _ => by simp at hl
  | a :: es, e :: en, v, b, j, h, hl, he => by
    obtain ⟨n, v', rfl, h1, h2⟩ := he 0 a e rfl rfl
    simp only [lookI] at h
    split at h
    · rename_i v1 b1 hr
      simp at h
      obtain ⟨rfl, rfl⟩ := h
      simp only [Instr.findNow, h1, Instr.sameNow]
      by_cases hx : x = n
      · subst hx
        simp
        exact ⟨j, e.val, ⟨rfl, rfl⟩, by rw [h2]; simp [isel, ieq], by simp [bsel, ieq]⟩
      · have hb : (x == n) = false := by simpa using hx
        have hi : ieq x n = false := by simp [ieq, hx]
        simp [hb]
        rw [hi]
        exact lookI_find hr (by simpa using hl) (fun i a e ha he' => he (i + 1) a e (by simpa using ha) (by simpa using he'))
    · cases h
theorem run_checkKey {w : World} {t : TypeId} {k : IntKind} {x : Int} (b : Bool) (hu : P.underlying t = some (.int k)) : (Instr.checkKey b 10000 t (.int k x)).run P w = .ok () w := by
  obtain ⟨d, hd⟩ : ∃ d, 10000 = d + 1 := ⟨9999, rfl⟩
  rw [hd, Instr.checkKey]
  simp [run_underlying hu]

theorem po_lookup (T : TabOk P) {t : TypeId} {m k : Operand} {ok : Bool} (ho : o.op = .lookup t m k ok) (h : pureOp P lim o st K = some r) : POut P lim o st K r := by
  simp only [pureOp, ho] at h
  have hrd : isRd o = true := by simp [isRd, ho]
  split at h
  · rename_i q kk n hm hk
    split at h
    · rename_i kt vt es hob
      split at h
      · rename_i kk' vk hkt hvt
        split at h
        · rename_i hc
          simp only [Bool.and_eq_true, beq_iff_eq] at hc
          obtain ⟨rfl, hty⟩ := hc
          have htt : P.underlying t = some (.map kt vt) := by
            unfold mapIs at hty
            split at hty
            · rename_i a b hab
              simp at hty
              obtain ⟨rfl, rfl⟩ := hty
              exact (ty_map hab).2
            · cases hty
          split at h
          · rename_i v b hl
            refine ⟨_, _, h, .still fun obsS cv Γ w act c => ?_⟩
            have h1 := c.ops m (by simp [ho, Op.operands])
            have h2 := c.ops k (by simp [ho, Op.operands])
            rw [hm] at h1; rw [hk] at h2
            have h1 := h1.one (by simp) rfl (by simp)
            generalize hve : act.eval m = ve at h1
            cases h1 with
            | mapr hp =>
              rename_i blk
              obtain ⟨_, ⟨en, cl, hen⟩, hct⟩ := c.mem.at c.wk0 hp hob
              have hcv : cv q := c.need hrd q _ hob (by cases lim with
                | none => trivial
                | some n => exact .inr (by simp))
              obtain ⟨g1, g2⟩ := hct hcv en cl hen
              have hz : ∃ i, P.info? vt = some i ∧ i.zero = some (.int vk 0) := by
                obtain ⟨i, z, hi, hz, hd, hs⟩ := zero_ok T (t := vt) (by simp [plainT, hvt])
                refine ⟨i, hi, ?_⟩
                rw [hz]
                have hd := hd default (fun _ => False)
                have e1 : mk P vt (zeroD P 20 vt) = .int vk 0 := by simp [mk, hvt, zeroD, D.n]
                rw [e1] at hs
                have hc := hs.cells rfl
                rw [hc] at hd
                cases hd with
                | int ht hn => rw [(ty_int hvt).2] at ht; cases ht; simp [zeroD, hvt, D.n] at hn; rw [← hn]
                | bool ht => rw [(ty_int hvt).2] at ht; cases ht
                | str ht => rw [(ty_int hvt).2] at ht; cases ht
                | st ht => rw [(ty_int hvt).2] at ht; cases ht
                | nil ht => rw [(ty_int hvt).2] at ht; cases ht
                | slE ht => rw [(ty_int hvt).2] at ht; cases ht
                | sl ht => rw [(ty_int hvt).2] at ht; cases ht
              obtain ⟨iv, hiv, hzv⟩ := hz
              have hty2 : ∀ (i : Nat) a e, es[i]? = some a → en.toList[i]? = some e → ∃ n v', a = (.int kk n, .int vk v') ∧ e.key = .int kk n ∧ e.val = .int vk v' := fun i a e ha he => by
                obtain ⟨k1, n1, k2, v1, e1, e2, e3, e4, e5⟩ := g2 i a e ha (by simpa using he)
                rw [(ty_int hkt).2] at e4; cases e4
                rw [(ty_int hvt).2] at e5; cases e5
                exact ⟨n1, v1, e1, e2, e3⟩
              have hkey : ∀ (f : Option (Nat × Value)), Instr.findNow (.int kk) (.int kk n) en.toList 0 = some f → (Instr.findKey kt (.int kk n) en.toList).run P w = .ok f w := fun f hf => by
                simp [Instr.findKey, run_underlying (ty_int hkt).2, hf]
              have hobj : (getObj blk).run P w = .ok (.map en cl) w := by simp [getObj, Sem.run, hen]
              have hfin : ∀ vv bb, (vv, bb) = (Value.int vk v, b) → ∃ u, Result.ok (Next.value (if ok = true then .tuple #[vv, .bool bb] else vv)) w = Result.ok (Next.value u) w ∧ VRel P w Γ (if ok then .tup [.int vk v, .bool b] else .int vk v) u := fun vv bb e => by
                cases e
                refine ⟨_, rfl, ?_⟩
                cases ok with
                | false => exact .mkInt
                | true =>
                  refine ⟨_, rfl, rfl, fun i a x ha hx => ?_⟩
                  match i with
                  | 0 => simp at ha hx; subst ha; subst hx; exact .inr ⟨.int, rfl⟩
                  | 1 => simp at ha hx; subst ha; subst hx; exact .inr ⟨.bool, rfl⟩
                  | i + 2 => simp at ha
              rcases lookI_find (j := 0) hl (by simpa using g1) hty2 with ⟨i, u, f1, f2, f3⟩ | ⟨f1, f2, f3⟩
              · obtain ⟨u', g3, g4⟩ := hfin u true (by rw [f2, f3])
                refine ⟨u', ?_, g4⟩
                rw [← g3]
                simp [execOp, ho, Instr.lookup, run_underlying htt, hve, h2.int, hobj, run_checkKey _ (ty_int hkt).2, hkey _ f1]
              · obtain ⟨u', g3, g4⟩ := hfin (.int vk 0) false (by rw [f2, f3])
                refine ⟨u', ?_, g4⟩
                rw [← g3]
                simp [execOp, ho, Instr.lookup, run_underlying htt, hve, h2.int, hobj, run_checkKey _ (ty_int hkt).2, hkey _ f1, zeroValue, typeInfo, hiv, hzv]
          · cases h
        · cases h
      · cases h
    · cases h
  · cases h

end
end Go.Ev

namespace Go.Ev
open Go

section
variable {P : Program} {lim : Option Nat} {o : Oper} {st : St} {R : Type} {K : A → List Ob → Option R} {r : R}

theorem places_ok : ∀ (l : List Field), (∀ f ∈ l, P.cellsOf f.type ≠ 0) → l.mapM (fun f => (P.info? f.type).map fun i => (f.offset, i.size)) = some (l.map fun f => (f.offset, P.cellsOf f.type))
  | [], _ => rfl
  | f :: l, h => by
    have h0 := h f (by simp)
    have ih := places_ok l fun g hg => h g (by simp [hg])
    cases hi : P.info? f.type with
    | none => simp [Program.cellsOf, hi] at h0
    | some i => simp [List.mapM_cons, hi, ih, Program.cellsOf]
theorem fields_plain {n : Nat} {t : TypeId} {fa : Array Field} (hp : plainT P (n + 1) t = true) (hk : ty P t = .struct (fa.toList.map fun f => (f.type, f.offset))) : ∀ f ∈ fa.toList, plainT P n f.type = true ∧ P.cellsOf f.type ≠ 0 := fun f hf => by
  simp only [plainT, hk] at hp
  have := List.all_eq_true.1 hp (f.type, f.offset) (List.mem_map.2 ⟨f, hf, rfl⟩)
  simpa using this

theorem build_parts (T : TabOk P) {w : World} {Γ : Env} {cv : Nat → Prop} {obsS : List Ob} {act : Act} (hm : Mem P w Γ cv obsS) (wk : Wk st.obs obsS) {t : TypeId} {fa : Array Field} (hu : P.underlying t = some (.struct fa)) (hk : ty P t = .struct (fa.toList.map fun f => (f.type, f.offset))) (hlt : t < P.types.size) :
    ∀ (l : List (Nat × Operand)) (as : List A) (cs : List Value), CRel P w Γ (.st t as) cs → fitParts P st.obs (fa.toList.map fun f => (f.type, f.offset)) (l.map fun x => (x.1, ev st x.2)) = true → (∀ x ∈ l, VRel P w Γ (ev st x.2) (act.eval x.2)) →
      CRel P w Γ (.st t (setParts as (l.map fun x => (x.1, ev st x.2)))) (l.foldl (fun cs x => ow cs (((fa[x.1]?).map (·.offset)).getD 0) (act.eval x.2).cells.toList) cs) ∧
      ∀ x ∈ l, ∃ f, fa[x.1]? = some f ∧ (act.eval x.2).cells.size = P.cellsOf f.type
  | [], as, cs, h, _, _ => ⟨h, fun x hx => by simp at hx⟩
  | (i, x) :: l, as, cs, h, hf, hv => by
    simp only [List.map_cons, fitParts, Bool.and_eq_true] at hf
    obtain ⟨hf, hf'⟩ := hf
    split at hf
    · rename_i ft fo hfi
      have hfi0 := hfi
      simp at hfi
      obtain ⟨f, hfi, rfl, rfl⟩ := hfi
      have hx : VRel P w Γ (ev st x) (act.eval x) := hv (i, x) (by simp)
      have hj : ev st x ≠ .junk := by intro e; rw [e] at hf; simp [fits] at hf
      have ht : ∀ vs, ev st x ≠ .tup vs := by intro vs e; rw [e] at hf; simp [fits] at hf
      obtain ⟨hr, _⟩ := hx.cells hj ht
      obtain ⟨d, _, _, hl, _⟩ := fits_kind T hf hr
      have hfit := fits_fit hm wk hf hr
      have hcs := fields_len h rfl rfl
      have has : as.length = fa.size := by
        cases h with
        | st ht _ hn => rw [hu] at ht; cases ht; exact hn
      have hi : i < as.length := by rw [has]; exact (Array.getElem?_eq_some_iff.1 hfi).1
      have hset : setA P (.st t as) [i] (ev st x) = some (.st t (as.set i (ev st x))) := by
        simp [setA, fieldsOf, A.isS, A.type, List.getElem?_eq_getElem hi]
      have hoff : offAt P t [i] = some (f.type, f.offset) := by simp [offAt, hk, hfi]
      obtain ⟨h1, _⟩ := setA_rel T h rfl hcs hset hoff hr hl hfit
      obtain ⟨h2, h3⟩ := build_parts T hm wk hu hk hlt l (as.set i (ev st x)) _ h1 hf' (fun y hy => hv y (by simp [hy]))
      refine ⟨?_, fun y hy => ?_⟩
      · simp only [List.map_cons, setParts, List.foldl_cons, hfi, Option.map_some, Option.getD_some]
        exact h2
      · rcases List.mem_cons.1 hy with rfl | hy
        · exact ⟨f, hfi, by simpa using hl⟩
        · exact h3 y hy
    · cases hf

theorem foldl_map_parts {act : Act} (pl : Nat → Nat) : ∀ (l : List (Nat × Operand)) (cs : List Value), (l.map fun x => (x.1, act.eval x.2)).foldl (fun cs (p : Nat × Value) => ow cs (pl p.1) p.2.cells.toList) cs = l.foldl (fun cs x => ow cs (pl x.1) (act.eval x.2).cells.toList) cs
  | [], _ => rfl
  | x :: l, cs => by simp only [List.map_cons, List.foldl_cons]; exact foldl_map_parts pl l _

theorem po_build (T : TabOk P) {t : TypeId} {parts : Array (Nat × Operand)} (ho : o.op = .build t parts) (h : pureOp P lim o st K = some r) : POut P lim o st K r := by
  simp only [pureOp, ho] at h
  split at h
  · rename_i fs hk
    split at h
    · rename_i hc
      simp only [Bool.and_eq_true] at hc
      obtain ⟨hp, hf⟩ := hc
      obtain ⟨hlt, fa, hu, rfl⟩ := ty_struct hk
      refine ⟨_, _, h, .still fun obsS cv Γ w act c => ?_⟩
      obtain ⟨it, z, hit, hz, hd, hs⟩ := zero_ok T hp
      have hzd := hd w Γ.Fz
      have hops : ∀ x ∈ parts.toList, VRel P w Γ (ev st x.2) (act.eval x.2) := fun x hx => c.ops x.2 (by
        simp only [ho, Op.operands]
        exact List.mem_toArray.2 (List.mem_map.2 ⟨x, hx, rfl⟩))
      have h0 : CRel P w Γ (.st t (mkL P (fa.toList.map fun f => (f.type, f.offset)) (zeroD P 20 t) 0)) z.cells.toList := by
        generalize z.cells.toList = zc at hzd ⊢
        cases hzd with
        | st ht hl hone hx hh =>
          rw [hu] at ht; cases ht
          have key : ∀ (i : Nat) f a, fa[i]? = some f → (mkL P (fa.toList.map fun f => (f.type, f.offset)) (zeroD P 20 t) 0)[i]? = some a → a = mk P f.type ((zeroD P 20 t).f i) := fun i f a hf ha => by
            obtain ⟨g, g1, g2⟩ := mkL_get ha
            simp at g1
            obtain ⟨f', g1, rfl⟩ := g1
            rw [hf] at g1; cases g1
            rw [g2, Nat.zero_add]
          refine .st hu hl (by rw [mkL_length]; simp) hone (fun i f a hf ha => ?_) hx (fun i f a hf ha => ?_)
          · rw [key i f a hf ha]; exact mk_fit
          · rw [key i f a hf ha]; exact mk_rel (hh i f hf)
        | int h => rw [hu] at h; cases h
        | bool h => rw [hu] at h; cases h
        | str h => rw [hu] at h; cases h
        | nil h => rw [hu] at h; cases h
        | slE h => rw [hu] at h; cases h
        | sl h => rw [hu] at h; cases h
      have hfp := fields_plain hp hk
      obtain ⟨h1, h2⟩ := build_parts T c.mem c.wk0 hu hk hlt parts.toList _ _ h0 hf hops
      have hzl : z.cells.size = P.cellsOf t := by simpa using hzd.len T hlt
      have hpl := places_ok fa.toList (fun f hf => (hfp f hf).2)
      obtain ⟨c', g1, g2, g3⟩ := fill_ow (place := fun i => ((fa.toList.map fun f => (f.offset, P.cellsOf f.type)).toArray)[i]?) (fun i => ((fa[i]?).map (·.offset)).getD 0) (parts.toList.map fun x => (x.1, act.eval x.2)) z.cells (fun p hp => by
        obtain ⟨x, hx, rfl⟩ := List.mem_map.1 hp
        obtain ⟨f, e1, e2⟩ := h2 x hx
        have := (layout_get (T.lay hlt hu) (i := x.1) (f := f) (by simpa using e1)).2
        simp [e1, e2]
        omega)
      have hb : P.built t (parts.map fun (i, x) => (i, act.eval x)).toList = some c' := by
        simp only [Program.built, hit, hu, hz, hpl]
        rw [Array.toList_map]
        exact g1
      refine ⟨.agg c', by simp [execOp, ho, run_build w t _ c' hb], .mkS ?_ rfl (by simp)⟩
      have e := foldl_map_parts (act := act) (fun i => ((fa[i]?).map (·.offset)).getD 0) parts.toList z.cells.toList
      rw [g3.trans e]
      exact h1
    · cases h
  · cases h

theorem datParts_rel (T : TabOk P) {w : World} {Γ : Env} {cv : Nat → Prop} {obsS : List Ob} {act : Act} (hm : Mem P w Γ cv obsS) (wk : Wk st.obs obsS) {e : TypeId} {n : Nat} :
    ∀ (l : List (Nat × Operand)) (ds ds' : List D) (cs : List Value), (∀ (i : Nat) x, ds[i]? = some x → DRel P w Γ.Fz e x ((cs.drop (i * P.cellsOf e)).take (P.cellsOf e))) → cs.length = n * P.cellsOf e → ds.length = n →
      datParts P st.obs e ds (l.map fun x => (x.1, ev st x.2)) = some ds' → (∀ x ∈ l, VRel P w Γ (ev st x.2) (act.eval x.2)) →
      (∀ (i : Nat) x, ds'[i]? = some x → DRel P w Γ.Fz e x (((l.foldl (fun cs x => ow cs (x.1 * P.cellsOf e) (act.eval x.2).cells.toList) cs).drop (i * P.cellsOf e)).take (P.cellsOf e))) ∧ ds'.length = n ∧
      ∀ x ∈ l, x.1 < n ∧ (act.eval x.2).cells.size = P.cellsOf e
  | [], ds, ds', cs, h, hl, hn, hd, _ => by
    simp [datParts] at hd; subst hd
    exact ⟨h, hn, fun x hx => by simp at hx⟩
  | (i, x) :: l, ds, ds', cs, h, hl, hn, hd, hv => by
    simp only [List.map_cons, datParts] at hd
    split at hd
    · rename_i d hst hf hda
      split at hd
      · rename_i hi
        have hx : VRel P w Γ (ev st x) (act.eval x) := hv (i, x) (by simp)
        have hj : ev st x ≠ .junk := by intro e; rw [e] at hf; simp [fits] at hf
        have ht : ∀ vs, ev st x ≠ .tup vs := by intro vs e; rw [e] at hf; simp [fits] at hf
        obtain ⟨hr, _⟩ := hx.cells hj ht
        obtain ⟨_, _, _, hxl, _⟩ := fits_kind T hf hr
        have hfit := fits_fit hm wk hf hr
        have hD := dataOf_rel hm wk (Fz' := Γ.Fz) (fun _ h => h) hr hfit hda (.inl hst) (fun o p b ho => absurd ho ((still_reach 60).1 _ hst o))
        have hle : (i + 1) * P.cellsOf e ≤ n * P.cellsOf e := Nat.mul_le_mul_right _ (by omega)
        rw [Nat.add_mul, Nat.one_mul] at hle
        have hfitc : i * P.cellsOf e + (act.eval x).cells.toList.length ≤ cs.length := by omega
        obtain ⟨h1, h2, h3⟩ := datParts_rel T hm wk l (ds.set i d) ds' (ow cs (i * P.cellsOf e) (act.eval x).cells.toList) (fun j y hy => by
          rw [List.getElem?_set] at hy
          split at hy
          · rename_i hij
            subst hij
            have hdy : d = y := by simpa [hi] using hy
            subst hdy
            have : ((ow cs (i * P.cellsOf e) (act.eval x).cells.toList).drop (i * P.cellsOf e)).take (P.cellsOf e) = (act.eval x).cells.toList := by
              have := ow_in (cs := cs) (xs := (act.eval x).cells.toList) (f := i * P.cellsOf e) (k := 0) (m := P.cellsOf e) (by omega) (by omega)
              rw [Nat.add_zero] at this
              rw [this, ow_zero (by simp at hxl ⊢; omega)]
            rw [this]; exact hD
          · rename_i hij
            rw [ow_apart hfitc]
            · exact h j y hy
            · rcases Nat.lt_or_gt_of_ne hij with hlt | hlt
              · have : (i + 1) * P.cellsOf e ≤ j * P.cellsOf e := Nat.mul_le_mul_right _ hlt
                rw [Nat.add_mul, Nat.one_mul] at this
                omega
              · have : (j + 1) * P.cellsOf e ≤ i * P.cellsOf e := Nat.mul_le_mul_right _ hlt
                rw [Nat.add_mul, Nat.one_mul] at this
                omega) (by rw [ow_length hfitc]; exact hl) (by simpa using hn) hd (fun y hy => hv y (by simp [hy]))
        refine ⟨h1, h2, fun y hy => ?_⟩
        rcases List.mem_cons.1 hy with rfl | hy
        · exact ⟨by omega, by simpa using hxl⟩
        · exact h3 y hy
      · cases hd
    · cases hd

theorem ordParts_rel (T : TabOk P) {w : World} {Γ : Env} {cv : Nat → Prop} {obsS : List Ob} {act : Act} (hm : Mem P w Γ cv obsS) (wk : Wk st.obs obsS) {e : TypeId} {n : Nat} :
    ∀ (l : List (Nat × Operand)) (k : Nat) (cs : List Value), cs.length = n * P.cellsOf e → k + l.length = n → inOrder k (l.map fun x => (x.1, ev st x.2)) = true → allFit P st.obs e ((l.map fun x => (x.1, ev st x.2)).map (·.2)) = true →
      (∀ x ∈ l, VRel P w Γ (ev st x.2) (act.eval x.2)) →
      (∀ i, i < k → ((l.foldl (fun cs x => ow cs (x.1 * P.cellsOf e) (act.eval x.2).cells.toList) cs).drop (i * P.cellsOf e)).take (P.cellsOf e) = (cs.drop (i * P.cellsOf e)).take (P.cellsOf e)) ∧
      (∀ (j : Nat) a, ((l.map fun x => (x.1, ev st x.2)).map (·.2))[j]? = some a → Fit P Γ e a ∧ CRel P w Γ a (((l.foldl (fun cs x => ow cs (x.1 * P.cellsOf e) (act.eval x.2).cells.toList) cs).drop ((k + j) * P.cellsOf e)).take (P.cellsOf e))) ∧
      ∀ x ∈ l, x.1 < n ∧ (act.eval x.2).cells.size = P.cellsOf e
  | [], k, cs, hl, hn, _, _, _ => ⟨fun _ _ => rfl, fun j a h => by simp at h, fun x hx => by simp at hx⟩
  | (i, x) :: l, k, cs, hl, hn, ho, hf, hv => by
    simp only [List.map_cons, inOrder, Bool.and_eq_true, beq_iff_eq] at ho
    obtain ⟨rfl, ho⟩ := ho
    simp only [List.map_cons, allFit, Bool.and_eq_true] at hf
    obtain ⟨hf, hf'⟩ := hf
    simp at hn
    have hx : VRel P w Γ (ev st x) (act.eval x) := hv (k, x) (by simp)
    have hj : ev st x ≠ .junk := by intro e; rw [e] at hf; simp [fits] at hf
    have ht : ∀ vs, ev st x ≠ .tup vs := by intro vs e; rw [e] at hf; simp [fits] at hf
    obtain ⟨hr, _⟩ := hx.cells hj ht
    obtain ⟨_, _, _, hxl, _⟩ := fits_kind T hf hr
    have hfit := fits_fit hm wk hf hr
    have hle : (k + 1) * P.cellsOf e ≤ n * P.cellsOf e := Nat.mul_le_mul_right _ (by omega)
    rw [Nat.add_mul, Nat.one_mul] at hle
    have hfitc : k * P.cellsOf e + (act.eval x).cells.toList.length ≤ cs.length := by omega
    obtain ⟨h1, h2, h3⟩ := ordParts_rel T hm wk l (k + 1) (ow cs (k * P.cellsOf e) (act.eval x).cells.toList) (by rw [ow_length hfitc]; exact hl) (by omega) ho hf' (fun y hy => hv y (by simp [hy]))
    refine ⟨fun i hi => ?_, fun j a ha => ?_, fun y hy => ?_⟩
    · simp only [List.foldl_cons]
      rw [h1 i (by omega), ow_apart hfitc]
      have : (i + 1) * P.cellsOf e ≤ k * P.cellsOf e := Nat.mul_le_mul_right _ hi
      rw [Nat.add_mul, Nat.one_mul] at this
      omega
    · simp only [List.foldl_cons]
      cases j with
      | zero =>
        simp at ha
        subst ha
        refine ⟨hfit, ?_⟩
        rw [Nat.add_zero, h1 k (by omega)]
        have := ow_in (cs := cs) (xs := (act.eval x).cells.toList) (f := k * P.cellsOf e) (k := 0) (m := P.cellsOf e) (by omega) (by omega)
        rw [Nat.add_zero] at this
        rw [this, ow_zero (by simp at hxl ⊢; omega)]
        exact hr
      | succ j =>
        have := h2 j a (by simpa using ha)
        rw [show k + (j + 1) = k + 1 + j by omega]
        exact this
    · rcases List.mem_cons.1 hy with rfl | hy
      · exact ⟨by simp; omega, by simpa using hxl⟩
      · exact h3 y hy

theorem run_buildSlice' {w : World} {t e : TypeId} {n : Nat} {parts : Array (Nat × Value)} {cells : Array Value} {ie : TypeInfo} {z : Value}
    (hu : P.underlying t = some (.slice e)) (hie : P.info? e = some ie) (hz : ie.zero = some z) (hsmall : ¬ n * ie.size > 2 ^ 24)
    (h : Instr.fill (fun i => some (i * ie.size, ie.size)) (madeCells z.cells (n * ie.size)) parts.toList = some cells) :
    (Instr.buildSlice t n parts).run P w = .ok (.slice (some ⟨w.heap.size, 0, none⟩) n n) (w.alloc (.cells cells e)) := by
  by_cases h0 : n * ie.size = 0
  · rw [h0] at h
    simp [madeCells, Array.range_zero'] at h
    simp [Instr.buildSlice, run_underlying hu, sizeOf, typeInfo, hie, h0, newRow, h, Array.range_zero']
  · simp [madeCells] at h
    simp [Instr.buildSlice, run_underlying hu, sizeOf, typeInfo, zeroValue, hie, hz, hsmall, h0, h, newRow]

theorem po_buildSlice (T : TabOk P) {t : TypeId} {n : Nat} {parts : Array (Nat × Operand)} (ho : o.op = .buildSlice t n parts) (h : pureOp P lim o st K = some r) : POut P lim o st K r := by
  simp only [pureOp, ho] at h
  split at h
  · rename_i e hk
    split at h
    · cases h
    · rename_i hc0
      simp at hc0
      obtain ⟨hsmall, h0⟩ := hc0
      split at h
      · cases h
      · rename_i hp
        have hp : plainT P 20 e = true := by simpa using hp
        obtain ⟨i, z, hi, hz, hd, _⟩ := zero_ok T hp
        have hlen : z.cells.size = P.cellsOf e := by simpa using (hd default (fun _ => False)).len T (plain_lt hp)
        have hsz : i.size = P.cellsOf e := by simp [Program.cellsOf, hi]
        have hzero : ∀ k, k < n → ((madeCells z.cells (n * i.size)).toList.drop (k * P.cellsOf e)).take (P.cellsOf e) = z.cells.toList := fun k hk => by
          have := madeCells_part z.cells n k hk (by omega)
          rw [hlen] at this
          rw [hsz]; exact this
        have fin : ∀ (ob : Ob) (hsh : ∀ b sz, Shape ob (.arr b n sz e true)), K (.own st.obs.length) (st.obs ++ [ob]) = some r →
            (∀ obsS cv Γ w (act : Act), Mem P w Γ cv obsS → Wk st.obs obsS → (∀ x ∈ parts.toList, VRel P w Γ (ev st x.2) (act.eval x.2)) →
              (∀ x ∈ parts.toList, x.1 < n ∧ (act.eval x.2).cells.size = P.cellsOf e) ∧
              ∀ (c : Array Value) (Γ' : Env) (w' : World) b, Ext (fun _ => True) w w' Γ Γ' → w'.heap[b]? = some (.cells c e (0, 0)) → c.toList = parts.toList.foldl (fun cs x => ow cs (x.1 * P.cellsOf e) (act.eval x.2).cells.toList) (madeCells z.cells (n * i.size)).toList → Content P w' Γ' ob (.arr b n (n * P.cellsOf e) e true)) → POut P lim o st K r := fun ob hsh hK hcon => by
          refine ⟨_, _, hK, .new fun obsS cv Γ w act c => ?_⟩
          have hops : ∀ x ∈ parts.toList, VRel P w Γ (ev st x.2) (act.eval x.2) := fun x hx => c.ops x.2 (by
            simp only [ho, Op.operands]
            exact List.mem_toArray.2 (List.mem_map.2 ⟨x, hx, rfl⟩))
          obtain ⟨g1, g2⟩ := hcon obsS cv Γ w act c.mem c.wk0 hops
          obtain ⟨c', f1, f2, f3⟩ := fill_ow (place := fun k => some (k * i.size, i.size)) (fun k => k * i.size) (parts.toList.map fun x => (x.1, act.eval x.2)) (madeCells z.cells (n * i.size)) (fun p hp => by
            obtain ⟨x, hx, rfl⟩ := List.mem_map.1 hp
            obtain ⟨e1, e2⟩ := g1 x hx
            have : (x.1 + 1) * P.cellsOf e ≤ n * P.cellsOf e := Nat.mul_le_mul_right _ e1
            rw [Nat.add_mul, Nat.one_mul] at this
            simp [e2, hsz, size_madeCells]
            omega)
          have f3 := f3.trans (foldl_map_parts (act := act) (fun k => k * i.size) parts.toList _)
          rw [hsz] at f3
          have hn := c.fresh st.obs.length (Nat.le_refl _) (by simp)
          have hrun := run_buildSlice' (P := P) (w := w) (t := t) (n := n) (parts := parts.map fun (i, x) => (i, act.eval x)) (cells := c') (ty_slice hk).2 hi hz (by rw [hsz]; omega) (by rw [Array.toList_map]; exact f1)
          refine ⟨.cells c' e, .arr w.heap.size n (n * P.cellsOf e) e true, .slice (some ⟨w.heap.size, 0, none⟩) n n, ?_, ?_, hsh _ _, ?_, ?_, ?_⟩
          · simp [execOp, ho, hrun]
          · intro b hb; simp [Place.block] at hb; exact hb.symm
          · exact ⟨_, alloc_at _ _, by rw [f2, size_madeCells, hsz], Nat.le_refl _⟩
          · refine g2 c' _ _ w.heap.size ⟨fun _ h => h, fun b hb => alloc_old (c.mem.fzlt b hb), fun q r _ hr => ?_⟩ (alloc_at _ _) (by rw [hsz]; exact f3)
            rw [Env.put_ne _ _ (by rintro rfl; rw [hn] at hr; cases hr)]; exact hr
          · exact .mk1 (.own (by rw [Env.put_at]) (Nat.le_refl _) (Nat.le_refl _) (fun _ => rfl)) rfl (by simp) rfl
        split at h
        · rename_i ds hds
          have hdsl : ∀ (w : World) Γ cv obsS (act : Act), Mem P w Γ cv obsS → Wk st.obs obsS → (∀ x ∈ parts.toList, VRel P w Γ (ev st x.2) (act.eval x.2)) → _ := fun w Γ cv obsS act hm wk hops =>
            datParts_rel T (w := w) (Γ := Γ) hm wk (e := e) (n := n) parts.toList _ ds (madeCells z.cells (n * i.size)).toList (fun j x hx => by
              have hj : j < n := by have := (List.getElem?_eq_some_iff.1 hx).1; simpa using this
              have hx' : x = zeroD P 20 e := by
                rw [List.getElem?_replicate] at hx
                split at hx <;> simp_all
              subst hx'
              rw [hzero j hj]; exact hd _ _) (by simp [size_madeCells, hsz]) (by simp) hds hops
          have hlen' : ds.length = n := by
            -- the count stands with no machine in sight
            have : ∀ (ps : List (Nat × A)) (a b : List D), datParts P st.obs e a ps = some b → b.length = a.length := by
              intro ps
              induction ps with
              | nil => intro a b h; simp [datParts] at h; subst h; rfl
              | cons p ps ih =>
                intro a b h
                obtain ⟨q, y⟩ := p
                simp only [datParts] at h
                split at h
                · split at h
                  · have := ih _ _ h; simpa using this
                  · cases h
                · cases h
            have := this _ _ _ hds
            simpa using this
          refine fin (.arr e ds false true true) (fun b sz => ⟨rfl, hlen', by simp, fun _ => rfl⟩) h (fun obsS cv Γ w act hm wk hops => ?_)
          obtain ⟨k1, k2, k3⟩ := hdsl w Γ cv obsS act hm wk hops
          refine ⟨k3, fun c Γ' w' b hext hcell hc => ?_⟩
          intro c2 ty fz hc2 j x hx
          rw [hcell] at hc2; cases hc2
          have := k1 j x hx
          unfold cellsIn
          rw [hc]
          exact this.mono hext.fz hext.fzs
        · split at h
          · rename_i hcc
            simp only [Bool.and_eq_true, beq_iff_eq] at hcc
            obtain ⟨⟨hall, hord⟩, hln⟩ := hcc
            have hln' : parts.toList.length = n := by simpa using hln
            refine fin (.arrA e _ true true) (fun b sz => ⟨rfl, by simpa using hln, fun _ => rfl⟩) h (fun obsS cv Γ w act hm wk hops => ?_)
            obtain ⟨k1, k2, k3⟩ := ordParts_rel T (w := w) (Γ := Γ) hm wk (e := e) (n := n) parts.toList 0 (madeCells z.cells (n * i.size)).toList (by simp [size_madeCells, hsz]) (by omega) hord hall hops
            refine ⟨k3, fun c Γ' w' b hext hcell hc => ?_⟩
            intro c2 ty fz hc2 j x hx
            rw [hcell] at hc2; cases hc2
            obtain ⟨g1, g2⟩ := k2 j x hx
            rw [Nat.zero_add] at g2
            unfold cellsIn
            rw [hc]
            exact ⟨g1.ext (fun _ _ => trivial) hext, g2.ext (fun _ _ => trivial) hext⟩
          · cases h
  · cases h

theorem pureOp_sound (T : TabOk P) (h : pureOp P lim o st K = some r) : POut P lim o st K r := by
  cases hop : o.op with
  | move x => exact po_move hop (by simpa [pureOp, hop] using h)
  | pick c a b => exact po_pick hop h
  | alloc t => exact po_alloc T hop h
  | box t x => exact po_box T hop h
  | build t ps => exact po_build T hop h
  | buildSlice t n ps => exact po_buildSlice T hop h
  | load t x => exact po_load T hop h
  | nilCheck x => exact po_nilCheck hop h
  | binOp op t x y p => exact po_binOp hop h
  | unOp op t x => exact po_unOp hop h
  | convert t d x => exact po_convert hop h
  | makeFunc f a b => cases f with
    | func f => exact po_makeFunc hop h
    | _ => simp [pureOp, hop] at h
  | makeMap t x => cases x with
    | none => exact po_makeMap hop h
    | some x => simp [pureOp, hop] at h
  | makeSlice t l c => exact po_makeSlice T hop h
  | slice t x lo hi mx => exact po_slice hop h
  | fieldAddr s x f => exact po_fieldAddr T hop h
  | field t x f => exact po_field T hop h
  | indexAddr t x i => exact po_indexAddr hop h
  | index t x i => exact po_index hop h
  | lookup t m k ok => exact po_lookup T hop h
  | extract x i => exact po_extract hop h
  | _ => simp [pureOp, hop] at h

end
end Go.Ev
