/- The evaluator E: the operations that write nothing, against the machine. The evaluator E: the operations that write nothing (2). The evaluator E: the operations that write nothing (3). The evaluator E: the operations that write nothing (4). -/
import Derived.Test.YtakjjijmcnhpoaaGreatEvC
import Derived.Laws.Strings
namespace Go.Ev
open Go

def Need (lim : Option Nat) (obs : List Ob) (cv : Nat → Prop) : Prop :=
  ∀ (o : Nat) ob, obs[o]? = some ob → (match lim with | none => True | some n => o < n ∨ (∀ t a, ob ≠ .var t a)) → cv o

structure Ctl (P : Program) (lim : Option Nat) (o : Oper) (st : St) (obs1 obsS : List Ob) (cv : Nat → Prop) (Γ : Env) (w : World) (act : Act) : Prop where
  wk : Wk obs1 obsS
  wk0 : Wk st.obs obsS
  mem : Mem P w Γ cv obsS
  need : isRd o = true → Need lim st.obs cv
  fresh : ∀ n, st.obs.length ≤ n → n < obs1.length → Γ.β n = none
  ops : ∀ x ∈ o.op.operands, VRel P w Γ (ev st x) (act.eval x)

/-- What an operation that E has reckoned does in the machine, whatever else is known. -/
def PDoes (P : Program) (lim : Option Nat) (o : Oper) (st : St) (a : A) (obs1 : List Ob) : Prop :=
  Pre st.obs obs1 ∧ ∀ obsS cv Γ w act, Ctl P lim o st obs1 obsS cv Γ w act →
    ∃ Γ' v w', (execOp act.eval o).run P w = .ok (.value v) w' ∧ VRel P w' Γ' a v ∧ Grow P Γ Γ' w w' cv obsS st.obs.length obs1.length
def POut {R : Type} (P : Program) (lim : Option Nat) (o : Oper) (st : St) (K : A → List Ob → Option R) (r : R) : Prop :=
  ∃ a obs1, K a obs1 = some r ∧ PDoes P lim o st a obs1

section
variable {P : Program} {lim : Option Nat} {o : Oper} {st : St} {R : Type} {K : A → List Ob → Option R} {r : R}

theorem PDoes.still {a : A} (h : ∀ obsS cv Γ w act, Ctl P lim o st st.obs obsS cv Γ w act → ∃ v, (execOp act.eval o).run P w = .ok (.value v) w ∧ VRel P w Γ a v) : PDoes P lim o st a st.obs :=
  ⟨Pre.refl _, fun obsS cv Γ w act c => by
    obtain ⟨v, h1, h2⟩ := h obsS cv Γ w act c
    exact ⟨Γ, v, w, h1, h2, Grow.refl c.mem⟩⟩
theorem PDoes.new {a : A} {ob : Ob} (h : ∀ obsS cv Γ w act, Ctl P lim o st (st.obs ++ [ob]) obsS cv Γ w act → ∃ obj p v, (execOp act.eval o).run P w = .ok (.value v) (w.alloc obj) ∧ (∀ b, p.block = some b → b = w.heap.size) ∧ Shape ob p ∧
      Backed P (w.alloc obj) p ∧ Content P (w.alloc obj) (Γ.put st.obs.length p) ob p ∧ VRel P (w.alloc obj) (Γ.put st.obs.length p) a v) : PDoes P lim o st a (st.obs ++ [ob]) :=
  ⟨Pre.append _ _, fun obsS cv Γ w act c => by
    obtain ⟨obj, p, v, h1, h2, h3, h4, h5, h6⟩ := h obsS cv Γ w act c
    obtain ⟨ob', h7, h8⟩ := c.wk st.obs.length ob (by simp)
    refine ⟨_, v, _, h1, h6, ?_⟩
    have := Grow.alloc c.mem st.obs.length (c.fresh _ (Nat.le_refl _) (by simp)) obj ob' p h7 h2 (h3.weak h8) h4 (h5.weak h8)
    simpa using this⟩
/-- What was said of a value is said of it when a block is new. -/
theorem VRel.alloc {w : World} {Γ : Env} {cv : Nat → Prop} {obsS : List Ob} (hm : Mem P w Γ cv obsS) {n : Nat} (hn : Γ.β n = none) (obj : Obj) (p : Place) {a : A} {v : Value} (h : VRel P w Γ a v) : VRel P (w.alloc obj) (Γ.put n p) a v :=
  h.ext (S := fun _ => True) (fun _ _ => trivial) ⟨fun _ h => h, fun b hb => alloc_old (hm.fzlt b hb), fun q r _ hr => by rw [Env.put_ne _ _ (by rintro rfl; rw [hn] at hr; cases hr)]; exact hr⟩
theorem CRel.alloc {w : World} {Γ : Env} {cv : Nat → Prop} {obsS : List Ob} (hm : Mem P w Γ cv obsS) {n : Nat} (hn : Γ.β n = none) (obj : Obj) (p : Place) {a : A} {v : List Value} (h : CRel P w Γ a v) : CRel P (w.alloc obj) (Γ.put n p) a v :=
  h.ext (S := fun _ => True) (fun _ _ => trivial) ⟨fun _ h => h, fun b hb => alloc_old (hm.fzlt b hb), fun q r _ hr => by rw [Env.put_ne _ _ (by rintro rfl; rw [hn] at hr; cases hr)]; exact hr⟩
theorem Fit.alloc {w : World} {Γ : Env} {n : Nat} (hn : Γ.β n = none) (p : Place) {a : A} {t : TypeId} (h : Fit P Γ t a) : Fit P (Γ.put n p) t a :=
  h.ext (S := fun _ => True) (w := w) (w' := w) (fun _ _ => trivial) ⟨fun _ h => h, fun b hb => rfl, fun q r _ hr => by rw [Env.put_ne _ _ (by rintro rfl; rw [hn] at hr; cases hr)]; exact hr⟩
theorem alloc_at (w : World) (obj : Obj) : (w.alloc obj).heap[w.heap.size]? = some obj := heap_alloc_new w obj

theorem VRel.cells {w : World} {Γ : Env} {a : A} {v : Value} (h : VRel P w Γ a v) (hj : a ≠ .junk) (ht : ∀ vs, a ≠ .tup vs) : CRel P w Γ a v.cells.toList ∧ VShape a v := by
  rcases h.to1 ht with h | h
  · exact absurd h hj
  · exact h

theorem po_move {x : Operand} (ho : o.op = .move x) (h : K (ev st x) st.obs = some r) : POut P lim o st K r :=
  ⟨_, _, h, .still fun obsS cv Γ w act c => ⟨act.eval x, by simp [execOp, ho], c.ops x (by simp [ho, Op.operands])⟩⟩

theorem po_pick {c a b : Operand} (ho : o.op = .pick c a b) (h : pureOp P lim o st K = some r) : POut P lim o st K r := by
  simp only [pureOp, ho] at h
  split at h
  · rename_i p hp
    have key : ∀ (act : Act) (w : World) (Γ : Env), VRel P w Γ (ev st c) (act.eval c) → (execOp act.eval o).run P w = .ok (.value (if p then act.eval a else act.eval b)) w := fun act w Γ hc => by
      rw [hp] at hc
      have := hc.bool
      simp [execOp, ho, this, asBool]
    split at h
    · rename_i x y hx hy
      refine ⟨_, _, h, .still fun obsS cv Γ w act k => ⟨_, key act w Γ (k.ops c (by simp [ho, Op.operands])), ?_⟩⟩
      have h1 := k.ops a (by simp [ho, Op.operands])
      have h2 := k.ops b (by simp [ho, Op.operands])
      rw [hx] at h1; rw [hy] at h2
      cases p with
      | true => exact h1
      | false => exact h2
    · rcases cnd_some h with ⟨hb, h⟩ | ⟨hb, h⟩
      · exact ⟨_, _, h, .still fun obsS cv Γ w act k => ⟨_, key act w Γ (k.ops c (by simp [ho, Op.operands])), by rw [hb]; exact k.ops a (by simp [ho, Op.operands])⟩⟩
      · exact ⟨_, _, h, .still fun obsS cv Γ w act k => ⟨_, key act w Γ (k.ops c (by simp [ho, Op.operands])), by rw [hb]; exact k.ops b (by simp [ho, Op.operands])⟩⟩
  · cases h

theorem po_alloc (T : TabOk P) {t : TypeId} (ho : o.op = .alloc t) (h : pureOp P lim o st K = some r) : POut P lim o st K r := by
  simp only [pureOp, ho] at h
  split at h
  · rename_i hp
    obtain ⟨i, z, hi, hz, hd, hs⟩ := zero_ok T hp
    have hlen : z.cells.toList.length = P.cellsOf t := (hd default (fun _ => False)).len T (plain_lt hp)
    refine ⟨_, _, h, .new fun obsS cv Γ w act c => ⟨.cells z.cells t, .var w.heap.size t, .pointer (some ⟨w.heap.size, 0, none⟩), ?_, ?_, rfl, ?_, ?_, ?_⟩⟩
    · simp [execOp, ho, Instr.alloc, zeroValue, typeInfo, hi, hz, newVar, newRow]
    · intro b hb; simp [Place.block] at hb; exact hb.symm
    · exact ⟨z.cells, alloc_at _ _, by simpa using hlen⟩
    · refine ⟨mk_fit, fun c' ty fz hc => ?_⟩
      rw [alloc_at] at hc; cases hc
      exact mk_rel (hd _ _)
    · exact .mk1 (.ref (by rw [Env.put_at]) rfl) rfl (by simp) rfl
  · cases h

theorem po_box (T : TabOk P) {t : TypeId} {x : Operand} (ho : o.op = .box t x) (h : pureOp P lim o st K = some r) : POut P lim o st K r := by
  simp only [pureOp, ho] at h
  split at h
  · rename_i hp
    refine ⟨_, _, h, .new fun obsS cv Γ w act c => ?_⟩
    have hx := c.ops x (by simp [ho, Op.operands])
    have hj : ev st x ≠ .junk := by intro e; rw [e] at hp; simp [fits] at hp
    have ht : ∀ vs, ev st x ≠ .tup vs := by intro vs e; rw [e] at hp; simp [fits] at hp
    obtain ⟨hr, _⟩ := hx.cells hj ht
    obtain ⟨d, hu, hk, hl, _⟩ := fits_kind T hp hr
    have hn := c.fresh st.obs.length (Nat.le_refl _) (by simp)
    refine ⟨.cells (act.eval x).cells t, .var w.heap.size t, .pointer (some ⟨w.heap.size, 0, none⟩), ?_, ?_, rfl, ?_, ?_, ?_⟩
    · simp [execOp, ho, Instr.box, newVar, newRow]
    · intro b hb; simp [Place.block] at hb; exact hb.symm
    · exact ⟨_, alloc_at _ _, by simpa using hl⟩
    · refine ⟨(fits_fit c.mem c.wk0 hp hr).alloc (w := w) hn _, fun c' ty fz hc => ?_⟩
      rw [alloc_at] at hc; cases hc
      exact hr.alloc c.mem hn _ _
    · exact .mk1 (.ref (by rw [Env.put_at]) rfl) rfl (by simp) rfl
  · cases h

theorem po_nilCheck {x : Operand} (ho : o.op = .nilCheck x) (h : pureOp P lim o st K = some r) : POut P lim o st K r := by
  simp only [pureOp, ho] at h
  have key : ∀ a, ev st x = a → (∀ w Γ v, VRel P w Γ a v → ∃ p, v = .pointer (some p)) → K a st.obs = some r → POut P lim o st K r := fun a ha hv h => by
    refine ⟨_, _, h, .still fun obsS cv Γ w act c => ?_⟩
    have hx := c.ops x (by simp [ho, Op.operands])
    rw [ha] at hx
    obtain ⟨p, hp⟩ := hv _ _ _ hx
    exact ⟨_, by simp [execOp, ho, hp], hp ▸ hx⟩
  split at h
  · rename_i q p hq
    refine key _ hq (fun w Γ v hv => ?_) h
    have := hv.one (by simp) rfl (by simp)
    cases this; exact ⟨_, rfl⟩
  · rename_i q i p hq
    refine key _ hq (fun w Γ v hv => ?_) h
    have := hv.one (by simp) rfl (by simp)
    cases this; exact ⟨_, rfl⟩
  · rename_i q p hq
    refine key _ hq (fun w Γ v hv => ?_) h
    have := hv.one (by simp) rfl (by simp)
    cases this; exact ⟨_, rfl⟩
  · cases h

theorem po_load (T : TabOk P) {t : TypeId} {x : Operand} (ho : o.op = .load t x) (h : pureOp P lim o st K = some r) : POut P lim o st K r := by
  simp only [pureOp, ho, loadE] at h
  have hrd : isRd o = true := by simp [isRd, ho]
  split at h
  · rename_i q path hq
    split at h
    · rename_i t0 v hv
      split at h
      · rename_i y hy
        split at h
        · rename_i hc
          simp only [Bool.and_eq_true] at hc
          obtain ⟨hf, hlim⟩ := hc
          refine ⟨_, _, h, .still fun obsS cv Γ w act c => ?_⟩
          have hx := c.ops x (by simp [ho, Op.operands])
          rw [hq] at hx
          have hx1 := hx.one (by simp) rfl (by simp)
          generalize hve : act.eval x = ve at hx1
          cases hx1 with
          | ref hp hoff =>
            rename_i b t' u off
            obtain ⟨hs, hb, hct⟩ := c.mem.at c.wk0 hp hv
            have hs : t0 = t' := hs
            subst hs
            have hcv : cv q := c.need hrd q _ hv (by
              cases lim with
              | none => trivial
              | some n => exact .inl (by simpa [below] using hlim))
            obtain ⟨hfit, hct⟩ := hct hcv
            obtain ⟨cs, hcs, hsz⟩ := hb
            have hr := hct cs _ _ hcs
            obtain ⟨g1, g2⟩ := getA_rel T hr hfit (by simpa using hsz) hy hoff
            obtain ⟨d, hu, hk, hl, hj⟩ := fits_kind T hf g1
            have hle := offAt_le T hoff
            have hcells : CellsAt w b off ((cs.toList.drop off).take (P.cellsOf u)) := cellsIn_at hcs off (P.cellsOf u)
            obtain ⟨v', h1, h2⟩ := run_load T hcells g1 hu hk hl hj
            exact ⟨v', by simp [execOp, ho, hve, h1], h2⟩
        · cases h
      · cases h
    · cases h
  · rename_i q i path hq
    split at h
    · rename_i e es nilable f rw hv
      split at h
      · rename_i t' d hd
        split at h
        · rename_i hc
          simp only [Bool.and_eq_true, beq_iff_eq] at hc
          obtain ⟨rfl, hp⟩ := hc
          refine ⟨_, _, h, .still fun obsS cv Γ w act c => ?_⟩
          have hx := c.ops x (by simp [ho, Op.operands])
          rw [hq] at hx
          have hx1 := hx.one (by simp) rfl (by simp)
          generalize hve : act.eval x = ve at hx1
          cases hx1 with
          | eref hpl hi hoff =>
            rename_i b len size e' full u off
            obtain ⟨hs, hb, hct⟩ := c.mem.at c.wk0 hpl hv
            obtain ⟨rfl, hlen, _⟩ := hs
            have hcv : cv q := c.need hrd q _ hv (by split; · trivial
                                                     · exact .inr (by simp))
            obtain ⟨cs, hcs, hsz, hcl⟩ := hb
            have hr := hct hcv cs _ _ hcs i (at_ es i) (by unfold at_; rw [List.getD_eq_getElem?_getD, List.getElem?_eq_getElem (by omega)]; rfl)
            have hfit : (i + 1) * P.cellsOf e ≤ len * P.cellsOf e := Nat.mul_le_mul_right _ hi
            rw [Nat.add_mul, Nat.one_mul] at hfit
            obtain ⟨off', h1, h2⟩ := pathD_rel T hr (cellsIn_length (by omega)) hd
            rw [hoff] at h1; cases h1
            have hle := offAt_le T hoff
            unfold cellsIn at h2
            rw [cut_cut _ _ _ _ _ hle] at h2
            obtain ⟨d', hu, hk, hj⟩ := mk_kind T (d := d) hp
            have hcells : CellsAt w b (i * P.cellsOf e + off) ((cs.toList.drop (i * P.cellsOf e + off)).take (P.cellsOf t)) := cellsIn_at hcs _ _
            obtain ⟨v', h1, h2⟩ := run_load T hcells (mk_rel h2) hu hk (cellsIn_length (by omega)) hj
            exact ⟨v', by simp [execOp, ho, hve, h1], h2⟩
        · cases h
      · cases h
    · rename_i e as f rw hv
      split at h
      · rename_i y hy
        split at h
        · rename_i hc
          simp only [Bool.and_eq_true, beq_iff_eq] at hc
          obtain ⟨hf, rfl⟩ := hc
          refine ⟨_, _, h, .still fun obsS cv Γ w act c => ?_⟩
          have hx := c.ops x (by simp [ho, Op.operands])
          rw [hq] at hx
          have hx1 := hx.one (by simp) rfl (by simp)
          generalize hve : act.eval x = ve at hx1
          cases hx1 with
          | eref hpl hi hoff =>
            rename_i b len size e' full u off
            simp [offAt] at hoff
            obtain ⟨rfl, rfl⟩ := hoff
            obtain ⟨hs, hb, hct⟩ := c.mem.at c.wk0 hpl hv
            obtain ⟨rfl, hlen, _⟩ := hs
            have hcv : cv q := c.need hrd q _ hv (by split; · trivial
                                                     · exact .inr (by simp))
            obtain ⟨cs, hcs, hsz, hcl⟩ := hb
            obtain ⟨hfit', hr⟩ := hct hcv cs _ _ hcs i y hy
            have hfit : (i + 1) * P.cellsOf e ≤ len * P.cellsOf e := Nat.mul_le_mul_right _ hi
            rw [Nat.add_mul, Nat.one_mul] at hfit
            obtain ⟨d', hu, hk, hl, hj⟩ := fits_kind T hf hr
            rw [Nat.add_zero] at hve
            have hcells : CellsAt w b (i * P.cellsOf e) (cellsIn cs (i * P.cellsOf e) (P.cellsOf e)) := cellsIn_at hcs _ _
            obtain ⟨v', h1, h2⟩ := run_load T hcells hr hu hk hl hj
            exact ⟨v', by simp [execOp, ho, hve, h1], h2⟩
        · cases h
      · cases h
    · cases h
  · rename_i t' d hq
    split at h
    · rename_i hc
      simp only [Bool.and_eq_true, beq_iff_eq] at hc
      obtain ⟨rfl, hp⟩ := hc
      refine ⟨_, _, h, .still fun obsS cv Γ w act c => ?_⟩
      have hx := c.ops x (by simp [ho, Op.operands])
      rw [hq] at hx
      have hx1 := hx.one (by simp) rfl (by simp)
      generalize hve : act.eval x = ve at hx1
      cases hx1 with
      | dref hfz hl hcs hd =>
        obtain ⟨d', hu, hk, hj⟩ := mk_kind T (d := d) hp
        obtain ⟨v', h1, h2⟩ := run_load T hcs (mk_rel hd) hu hk hl hj
        exact ⟨v', by simp [execOp, ho, hve, h1], h2⟩
    · cases h
  · cases h

end
end Go.Ev

namespace Go.Ev
open Go

section
variable {P : Program} {lim : Option Nat} {o : Oper} {st : St} {R : Type} {K : A → List Ob → Option R} {r : R}

def eqSl : Option Addr → Option Addr → Bool
  | none, b => b.isNone
  | some _, _ => false
def eqOp (op : BinOp) (b : Bool) : Bool := match op with | .eql => b | _ => bno b
theorem run_equal_bool {w : World} {t : TypeId} (hu : P.underlying t = some .bool) (a b : Bool) : (Op.equal t (.bool a) (.bool b)).run P w = .ok (a == b) w := by
  obtain ⟨d, hd⟩ : ∃ d, Op.maxDepth = d + 1 := ⟨9999, rfl⟩
  rw [Op.equal, hd]
  simp [Op.equalIn, run_underlying hu]
theorem run_equal_slice {w : World} {t e : TypeId} (hu : P.underlying t = some (.slice e)) (a b : Option Addr) (n c m d : Nat) (h : a = none ∨ b = none) : (Op.equal t (.slice a n c) (.slice b m d)).run P w = .ok (eqSl a b) w := by
  obtain ⟨d, hd⟩ : ∃ d, Op.maxDepth = d + 1 := ⟨9999, rfl⟩
  rw [Op.equal, hd]
  cases a <;> cases b <;> simp [Op.equalIn, run_underlying hu, eqSl] at h ⊢
theorem slt_total : ∀ (x y : List UInt8), slt y x = !(slt x y || x == y)
  | [], [] => rfl
  | [], b :: y => rfl
  | a :: x, [] => rfl
  | a :: x, b :: y => by
    have ih := slt_total x y
    unfold slt at ih ⊢
    simp only [Op.bytesLess]
    by_cases h1 : a = b
    · subst h1
      simp [ih]
    · have h1' : (a == b) = false := by simpa using h1
      have h2' : (b == a) = false := by simpa using Ne.symm h1
      have h3 : ((a :: x) == (b :: y)) = false := by simp [h1]
      rw [h1', h2', h3]
      simp only [Bool.false_and, Bool.or_false]
      have : a < b ∨ b < a := by
        rcases Nat.lt_trichotomy a.toNat b.toNat with h | h | h
        · exact .inl h
        · exact absurd (UInt8.toNat_inj.1 h) h1
        · exact .inr h
      rcases this with h | h
      · have : ¬ b < a := fun h' => absurd (Nat.lt_trans (show a.toNat < b.toNat from h) h') (Nat.lt_irrefl _)
        simp [h, this]
      · have : ¬ a < b := fun h' => absurd (Nat.lt_trans (show b.toNat < a.toNat from h) h') (Nat.lt_irrefl _)
        simp [h, this]
/-- A slice's nil-ness. -/
theorem nilOf_rel {w : World} {Γ : Env} {cv : Nat → Prop} {obs obsS : List Ob} (hm : Mem P w Γ cv obsS) (wk : Wk obs obsS) {a : A} {b : Bool} {v : Value} (h : nilOf obs a = some b) (hv : VRel P w Γ a v) : ∃ q n c, v = .slice q n c ∧ q.isNone = b := by
  cases a with
  | nsl =>
    simp [nilOf] at h; subst h
    have := hv.one (by simp) rfl (by simp)
    cases this; exact ⟨_, _, _, rfl, rfl⟩
  | snap e nil es f =>
    simp [nilOf] at h; subst h
    have := hv.one (by simp) rfl (by simp)
    cases this with
    | snapNil hn => exact ⟨_, _, _, rfl, by rw [hn]; rfl⟩
    | snapE hn => exact ⟨_, _, _, rfl, by rw [hn]; rfl⟩
    | snap hn => exact ⟨_, _, _, rfl, by rw [hn]; rfl⟩
  | own o =>
    simp only [nilOf] at h
    have hv := hv.one (by simp) rfl (by simp)
    split at h
    · rename_i e es nilable f rw hob
      cases h
      cases hv with
      | ownNil hp =>
        obtain ⟨_, h1, h2⟩ := (hm.at wk hp hob).1
        exact ⟨_, _, _, rfl, by rw [h1, h2]; rfl⟩
      | own hp =>
        obtain ⟨_, h1, h2, _⟩ := (hm.at wk hp hob).1
        refine ⟨_, _, _, rfl, ?_⟩
        cases nilable with
        | false => rfl
        | true =>
          have := h2 rfl
          cases es with
          | nil => simp at h1; omega
          | cons => rfl
    · rename_i e as f rw hob
      cases h
      cases hv with
      | ownNil hp => have := (hm.at wk hp hob).1; simp [Shape] at this
      | own hp => exact ⟨_, _, _, rfl, rfl⟩
    · cases h
  | sub o lo k f =>
    simp only [nilOf] at h
    have hv := hv.one (by simp) rfl (by simp)
    split at h
    · rename_i e es nilable f' rw hob
      cases h
      cases hv with
      | subNil hp =>
        obtain ⟨_, h1, h2⟩ := (hm.at wk hp hob).1
        exact ⟨_, _, _, rfl, by rw [h1, h2]; rfl⟩
      | sub hp =>
        obtain ⟨_, h1, h2, _⟩ := (hm.at wk hp hob).1
        refine ⟨_, _, _, rfl, ?_⟩
        cases nilable with
        | false => rfl
        | true =>
          have := h2 rfl
          cases es with
          | nil => simp at h1; omega
          | cons => rfl
    · cases h
  | _ => simp [nilOf] at h
theorem po_nil {op : BinOp} {t e : TypeId} {x y : Operand} {p} (ho : o.op = .binOp op t x y p) (hk : P.underlying t = some (.slice e)) {b : Bool} (hop : op = .eql ∨ op = .neq)
    (hxy : (ev st x = .nsl ∧ nilOf st.obs (ev st y) = some b) ∨ (ev st y = .nsl ∧ nilOf st.obs (ev st x) = some b))
    (h : K (.bool (eqOp op b)) st.obs = some r) : POut P lim o st K r :=
  ⟨_, _, h, .still fun obsS cv Γ w act q => by
    have h1 := q.ops x (by simp [ho, Op.operands])
    have h2 := q.ops y (by simp [ho, Op.operands])
    obtain ⟨qx, nx, cx, qy, ny, cy, e1, e2, e3, e4⟩ : ∃ qx nx cx qy ny cy, act.eval x = .slice qx nx cx ∧ act.eval y = .slice qy ny cy ∧ (qx = none ∨ qy = none) ∧ eqSl qx qy = b := by
      rcases hxy with ⟨hx, hy⟩ | ⟨hy, hx⟩
      · obtain ⟨qy, ny, cy, g1, g2⟩ := nilOf_rel q.mem q.wk0 hy h2
        rw [hx] at h1
        have := h1.one (by simp) rfl (by simp)
        generalize hve : act.eval x = ve at this
        cases this
        exact ⟨none, 0, 0, qy, ny, cy, rfl, g1, .inl rfl, g2⟩
      · obtain ⟨qx, nx, cx, g1, g2⟩ := nilOf_rel q.mem q.wk0 hx h1
        rw [hy] at h2
        have := h2.one (by simp) rfl (by simp)
        generalize hve : act.eval y = ve at this
        cases this
        refine ⟨qx, nx, cx, none, 0, 0, g1, rfl, .inr rfl, ?_⟩
        rw [← g2]; cases qx <;> rfl
    have e : (eqGuard op t x y (.slice qx nx cx) (.slice qy ny cy)).run P w = .ok () w := by
      unfold eqGuard
      cases op <;> rfl
    refine ⟨_, ?_, .mkBool⟩
    rcases hop with rfl | rfl
    · simp only [execOp, ho, e1, e2, Sem.run_bind, e, Result.andThen_ok, binOp, run_equal_slice hk _ _ _ _ _ _ e3, Sem.run_pure, e4]
      rfl
    · simp only [execOp, ho, e1, e2, Sem.run_bind, e, Result.andThen_ok, binOp, run_equal_slice hk _ _ _ _ _ _ e3, Sem.run_pure, e4]
      cases b <;> rfl⟩
theorem ilt_iff {x y : Int} : ilt x y = true ↔ x < y := by simp [ilt]
theorem ilt_not {x y : Int} : ilt x y = false ↔ ¬ x < y := by simp [ilt]
theorem ieq_not {x y : Int} : ieq x y = false ↔ ¬ x = y := by simp [ieq]

theorem po_int {op : BinOp} {t : TypeId} {x y : Operand} {p k k' a b} (ho : o.op = .binOp op t x y p) (hx : ev st x = .int k a) (hy : ev st y = .int k' b) {c : A} (hc : K c st.obs = some r)
    (hrun : ∀ w : World, ∃ v, (binOp op t (.int k a) (.int k' b)).run P w = .ok v w ∧ ∀ Γ, VRel P w Γ c v) : POut P lim o st K r :=
  ⟨_, _, hc, .still fun obsS cv Γ w act q => by
    have h1 := q.ops x (by simp [ho, Op.operands])
    have h2 := q.ops y (by simp [ho, Op.operands])
    rw [hx] at h1; rw [hy] at h2
    obtain ⟨v, h3, h4⟩ := hrun w
    refine ⟨v, ?_, h4 Γ⟩
    have e : (eqGuard op t x y (.int k a) (.int k' b)).run P w = .ok () w := by
      unfold eqGuard
      cases op <;> rfl
    simp [execOp, ho, h1.int, h2.int, e, h3]⟩
theorem po_binOp {op : BinOp} {t : TypeId} {x y : Operand} {p} (ho : o.op = .binOp op t x y p) (h : pureOp P lim o st K = some r) : POut P lim o st K r := by
  simp only [pureOp, ho, binE] at h
  split at h
  · rename_i k a k' b hx hy
    split at h
    · rcases cnd_some h with ⟨_, h⟩ | ⟨hb, h⟩
      · cases h
      · exact po_int ho hx hy h fun w => ⟨_, by simp [binOp, Op.shift, ilt_not.1 hb]; rfl, fun Γ => .mkInt⟩
    · rcases cnd_some h with ⟨_, h⟩ | ⟨hb, h⟩
      · cases h
      · exact po_int ho hx hy h fun w => ⟨_, by simp [binOp, Op.shift, ilt_not.1 hb]; rfl, fun Γ => .mkInt⟩
    · rename_i h1 h2
      split at h
      · rename_i hk
        have hk : k = k' := by simpa using hk
        subst hk
        unfold binI at h
        split at h
        · exact po_int ho hx hy h fun w => ⟨_, by simp [binOp, Op.intArith]; rfl, fun Γ => .mkInt⟩
        · exact po_int ho hx hy h fun w => ⟨_, by simp [binOp, Op.intArith]; rfl, fun Γ => .mkInt⟩
        · exact po_int ho hx hy h fun w => ⟨_, by simp [binOp, Op.intArith]; rfl, fun Γ => .mkInt⟩
        · rcases cnd_some h with ⟨_, h⟩ | ⟨hb, h⟩
          · cases h
          · exact po_int ho hx hy h fun w => ⟨_, by simp [binOp, Op.intDiv, ieq_not.1 hb]; rfl, fun Γ => .mkInt⟩
        · rcases cnd_some h with ⟨_, h⟩ | ⟨hb, h⟩
          · cases h
          · exact po_int ho hx hy h fun w => ⟨_, by simp [binOp, Op.intDiv, ieq_not.1 hb]; rfl, fun Γ => .mkInt⟩
        · exact po_int ho hx hy h fun w => ⟨_, by simp [binOp, Op.intBits]; rfl, fun Γ => .mkInt⟩
        · exact po_int ho hx hy h fun w => ⟨_, by simp [binOp, Op.intBits]; rfl, fun Γ => .mkInt⟩
        · exact po_int ho hx hy h fun w => ⟨_, by simp [binOp, Op.intBits]; rfl, fun Γ => .mkInt⟩
        · exact po_int ho hx hy h fun w => ⟨_, by simp only [binOp, Op.intBits, ne_eq, not_true_eq_false, if_false]; rfl, fun Γ => .mkInt⟩
        · exact po_int ho hx hy h fun w => ⟨_, by simp [binOp, Op.intCmp]; rfl, fun Γ => .mkBool⟩
        · refine po_int ho hx hy h fun w => ⟨_, by simp [binOp, Op.intCmp]; rfl, fun Γ => ?_⟩
          have : (a != b) = bno (ieq a b) := by
            by_cases e : a = b
            · subst e; simp [ieq, bno]
            · simp [ieq, bno, e]
          rw [this]; exact .mkBool
        · exact po_int ho hx hy h fun w => ⟨_, by simp [binOp, Op.intCmp]; rfl, fun Γ => .mkBool⟩
        · exact po_int ho hx hy h fun w => ⟨_, by simp [binOp, Op.intCmp]; rfl, fun Γ => .mkBool⟩
        · exact po_int ho hx hy h fun w => ⟨_, by simp [binOp, Op.intCmp]; rfl, fun Γ => .mkBool⟩
        · exact po_int ho hx hy h fun w => ⟨_, by simp [binOp, Op.intCmp]; rfl, fun Γ => .mkBool⟩
        · cases h
      · cases h
  · rename_i a b hx hy
    have key : ∀ (c : A), K c st.obs = some r → (∀ (s u : ByteArray) (w : World) Γ, a = s.data.toList → b = u.data.toList → ∃ v, (Op.stringOp op s u).run P w = .ok v w ∧ VRel P w Γ c v) → POut P lim o st K r := fun c hc hrun =>
      ⟨_, _, hc, .still fun obsS cv Γ w act q => by
        have h1 := q.ops x (by simp [ho, Op.operands])
        have h2 := q.ops y (by simp [ho, Op.operands])
        rw [hx] at h1; rw [hy] at h2
        obtain ⟨s, e1, e2⟩ := h1.str
        obtain ⟨u, e3, e4⟩ := h2.str
        obtain ⟨v, h3, h4⟩ := hrun s u w Γ e2 e4
        refine ⟨v, ?_, h4⟩
        have e : (eqGuard op t x y (.string s) (.string u)).run P w = .ok () w := by
          unfold eqGuard
          cases op <;> rfl
        have e' : binOp op t (.string s) (.string u) = Op.stringOp op s u := by cases op <;> rfl
        simp [execOp, ho, e1, e3, e, e', h3]⟩
    unfold binS at h
    split at h
    · rcases cnd_some h with ⟨hb, h⟩ | ⟨_, h⟩
      · refine key _ h fun s u w Γ e1 e2 => ⟨.string (s ++ u), ?_, .mk1 (.str ?_) rfl (by simp) rfl⟩
        · have : s.size + u.size ≤ 2 ^ 62 := by
            have hb := of_decide_eq_true hb
            rw [e1, e2] at hb
            simp only [Array.length_toList] at hb
            exact hb
          simp only [Op.stringOp]
          rw [if_neg (by
            show ¬ ((s.size + u.size : Nat) : Int) > 9223372036854775807
            omega)]
          rfl
        · subst e1; subst e2; simp [sapp]
      · cases h
    · refine key _ h fun s u w Γ e1 e2 => ⟨_, rfl, ?_⟩
      rw [ByteArray.toList_eq, ByteArray.toList_eq, ← e1, ← e2]; exact .mkBool
    · refine key _ h fun s u w Γ e1 e2 => ⟨_, rfl, ?_⟩
      rw [ByteArray.toList_eq, ByteArray.toList_eq, ← e1, ← e2]
      have : bno (seq_ a b) = !(a == b) := by unfold seq_ bno; cases a == b <;> rfl
      rw [this]; exact .mkBool
    · refine key _ h fun s u w Γ e1 e2 => ⟨_, rfl, ?_⟩
      rw [ByteArray.toList_eq, ByteArray.toList_eq, ← e1, ← e2]; exact .mkBool
    · refine key _ h fun s u w Γ e1 e2 => ⟨_, rfl, ?_⟩
      rw [ByteArray.toList_eq, ByteArray.toList_eq, ← e1, ← e2]
      have := slt_total a b
      unfold slt at this ⊢
      rw [this]; exact .mkBool
    · cases h
  · rename_i a b hx hy
    have key : ∀ op', op = op' → (op' = .eql ∨ op' = .neq) → ty P t = .bool → K (.bool (eqOp op' (beqb a b))) st.obs = some r → POut P lim o st K r := fun op' e1 e2 e3 hc =>
      ⟨_, _, hc, .still fun obsS cv Γ w act q => by
        have h1 := q.ops x (by simp [ho, Op.operands])
        have h2 := q.ops y (by simp [ho, Op.operands])
        rw [hx] at h1; rw [hy] at h2
        subst e1
        refine ⟨_, ?_, .mkBool⟩
        have e : (eqGuard op t x y (.bool a) (.bool b)).run P w = .ok () w := by
          unfold eqGuard
          cases op <;> rfl
        rcases e2 with rfl | rfl
        · simp only [execOp, ho, h1.bool, h2.bool, Sem.run_bind, e, Result.andThen_ok, binOp, run_equal_bool (ty_bool e3).2, Sem.run_pure]
          cases a <;> cases b <;> rfl
        · simp only [execOp, ho, h1.bool, h2.bool, Sem.run_bind, e, Result.andThen_ok, binOp, run_equal_bool (ty_bool e3).2, Sem.run_pure]
          cases a <;> cases b <;> rfl⟩
    split at h
    · rename_i hk; exact key .eql rfl (.inl rfl) hk h
    · rename_i hk; exact key .neq rfl (.inr rfl) hk h
    · cases h
  · split at h
    · rename_i b hk hnil
      exact po_nil ho (ty_slice hk).2 (.inl rfl) (.inl ⟨by assumption, by simp_all⟩) h
    · rename_i b hk hnil
      exact po_nil ho (ty_slice hk).2 (.inr rfl) (.inl ⟨by assumption, by simp_all⟩) h
    · cases h
  · split at h
    · rename_i b hk hnil
      exact po_nil ho (ty_slice hk).2 (.inl rfl) (.inr ⟨by assumption, by simp_all⟩) h
    · rename_i b hk hnil
      exact po_nil ho (ty_slice hk).2 (.inr rfl) (.inr ⟨by assumption, by simp_all⟩) h
    · cases h
  · cases h

end
end Go.Ev

namespace Go.Ev
open Go

section
variable {P : Program} {lim : Option Nat} {o : Oper} {st : St} {R : Type} {K : A → List Ob → Option R} {r : R}

theorem po_unOp {op : UnOp} {t : TypeId} {x : Operand} (ho : o.op = .unOp op t x) (h : pureOp P lim o st K = some r) : POut P lim o st K r := by
  simp only [pureOp, ho, unE] at h
  split at h
  · rename_i b hx
    refine ⟨_, _, h, .still fun obsS cv Γ w act q => ?_⟩
    have h1 := q.ops x (by simp [ho, Op.operands])
    rw [hx] at h1
    refine ⟨.bool !b, by simp [execOp, ho, h1.bool, Op.unary], ?_⟩
    have : (!b) = bno b := by cases b <;> rfl
    rw [this]; exact .mkBool
  · rename_i k n hx
    refine ⟨_, _, h, .still fun obsS cv Γ w act q => ?_⟩
    have h1 := q.ops x (by simp [ho, Op.operands])
    rw [hx] at h1
    exact ⟨_, by simp only [execOp, ho, h1.int, Op.unary, Op.intArith]; rfl, .mkInt⟩
  · rename_i k n hx
    refine ⟨_, _, h, .still fun obsS cv Γ w act q => ?_⟩
    have h1 := q.ops x (by simp [ho, Op.operands])
    rw [hx] at h1
    exact ⟨_, by simp only [execOp, ho, h1.int, Op.unary, Op.intBits]; rfl, .mkInt⟩
  · cases h

theorem po_convert {t d : TypeId} {x : Operand} (ho : o.op = .convert t d x) (h : pureOp P lim o st K = some r) : POut P lim o st K r := by
  simp only [pureOp, ho] at h
  split at h
  · rename_i k0 k k' n ht hd hx
    refine ⟨_, _, h, .still fun obsS cv Γ w act q => ?_⟩
    have h1 := q.ops x (by simp [ho, Op.operands])
    rw [hx] at h1
    refine ⟨_, ?_, .mkInt⟩
    simp [execOp, ho, h1.int, convert, run_underlying (ty_int ht).2, run_underlying (ty_int hd).2, Conv.intToInt]
    rfl
  · rename_i l ht hd hx
    refine ⟨_, _, h, .still fun obsS cv Γ w act q => ?_⟩
    have h1 := q.ops x (by simp [ho, Op.operands])
    rw [hx] at h1
    obtain ⟨s, e1, e2⟩ := h1.str
    refine ⟨.string s, ?_, ?_⟩
    · simp [execOp, ho, e1, convert, run_underlying (ty_str ht).2, run_underlying (ty_str hd).2]
    · rw [e2]; exact .mkStr
  · cases h

theorem fn_list {w : World} {Γ : Env} {act : Act} (l : Array Operand) (h : ∀ x ∈ l, VRel P w Γ (ev st x) (act.eval x)) (hj : ∀ x ∈ l, ∀ vs, ev st x ≠ .tup vs) (hn : ∀ x ∈ l, ev st x ≠ .junk) :
    (l.toList.map (ev st)).length = (l.map act.eval).size ∧ (∀ (i : Nat) a v, (l.toList.map (ev st))[i]? = some a → (l.map act.eval)[i]? = some v → VShape a v) ∧
    (∀ (i : Nat) a v, (l.toList.map (ev st))[i]? = some a → (l.map act.eval)[i]? = some v → CRel P w Γ a v.cells.toList) := by
  have key : ∀ (i : Nat) a v, (l.toList.map (ev st))[i]? = some a → (l.map act.eval)[i]? = some v → CRel P w Γ a v.cells.toList ∧ VShape a v := fun i a v ha hv => by
    simp at ha hv
    obtain ⟨x, hx, rfl⟩ := ha
    rw [hx] at hv
    simp at hv
    subst hv
    have hm := Array.mem_of_getElem? hx
    exact (h x hm).cells (hn x hm) (hj x hm)
  exact ⟨by simp, fun i a v ha hv => (key i a v ha hv).2, fun i a v ha hv => (key i a v ha hv).1⟩
theorem po_makeFunc {f : FuncId} {a b : Array Operand} (ho : o.op = .makeFunc (.func f) a b) (h : pureOp P lim o st K = some r) : POut P lim o st K r := by
  simp only [pureOp, ho] at h
  split at h
  · rename_i hg
    refine ⟨_, _, h, .still fun obsS cv Γ w act q => ⟨.func (.func f) (a.map act.eval) (b.map act.eval), by simp [execOp, ho, Instr.makeFunc], ?_⟩⟩
    simp only [Bool.and_eq_true, List.all_eq_true] at hg
    have hop : ∀ x ∈ a ++ b, VRel P w Γ (ev st x) (act.eval x) := fun x hx => q.ops x (by simpa [ho, Op.operands] using hx)
    have hgood : ∀ y : A, y.good = true → y ≠ .junk ∧ ∀ vs, y ≠ .tup vs := fun y hy => ⟨fun e => (by rw [e] at hy; cases hy), fun vs e => (by rw [e] at hy; cases hy)⟩
    have hga : ∀ x ∈ a, ev st x ≠ .junk ∧ ∀ vs, ev st x ≠ .tup vs := fun x hx => hgood _ (hg.1 x (by simpa using hx))
    have hgb : ∀ x ∈ b, ev st x ≠ .junk ∧ ∀ vs, ev st x ≠ .tup vs := fun x hx => hgood _ (hg.2 x (by simpa using hx))
    obtain ⟨h1, h2, h3⟩ := fn_list (P := P) (w := w) (Γ := Γ) (act := act) a (fun x hx => hop x (by simp [hx])) (fun x hx => (hga x hx).2) (fun x hx => (hga x hx).1)
    obtain ⟨h4, h5, h6⟩ := fn_list (P := P) (w := w) (Γ := Γ) (act := act) b (fun x hx => hop x (by simp [hx])) (fun x hx => (hgb x hx).2) (fun x hx => (hgb x hx).1)
    exact .mk1 (.fn h1 h4 h2 h5 h3 h6) rfl (by simp) rfl
  · cases h

theorem po_makeMap {t : TypeId} (ho : o.op = .makeMap t none) (h : pureOp P lim o st K = some r) : POut P lim o st K r := by
  simp only [pureOp, ho] at h
  split at h
  · rename_i k v hk
    refine ⟨_, _, h, .new fun obsS cv Γ w act c => ⟨.map #[] 0, .map w.heap.size, .map (some w.heap.size), ?_, ?_, trivial, ?_, ?_, ?_⟩⟩
    · simp [execOp, ho, Instr.makeMap]
    · intro b hb; simp [Place.block] at hb; exact hb.symm
    · exact ⟨_, _, alloc_at _ _⟩
    · intro en cl hc
      rw [alloc_at] at hc; cases hc
      exact ⟨rfl, fun i x y hx => by simp at hx⟩
    · exact .mk1 (.mapr (by rw [Env.put_at])) rfl (by simp) rfl
  · cases h

theorem madeCells_part (z : Array Value) (n i : Nat) (h : i < n) (hz : 0 < z.size) : cellsIn (madeCells z (n * z.size)) (i * z.size) z.size = z.toList := by
  have hle : (i + 1) * z.size ≤ n * z.size := Nat.mul_le_mul_right _ h
  rw [Nat.add_mul, Nat.one_mul] at hle
  apply List.ext_getElem?
  intro j
  unfold cellsIn
  rw [List.getElem?_take]
  split
  · rename_i hj
    rw [List.getElem?_drop]
    have e : (i * z.size + j) % z.size = j := by rw [Nat.mul_comm, Nat.mul_add_mod, Nat.mod_eq_of_lt hj]
    simp [madeCells, show i * z.size + j < n * z.size by omega, e, hj]
  · rename_i hj
    simp; omega
/-- Room in memory. -/
theorem po_makeSlice (T : TabOk P) {t : TypeId} {l c : Operand} (ho : o.op = .makeSlice t l c) (h : pureOp P lim o st K = some r) : POut P lim o st K r := by
  simp only [pureOp, ho] at h
  split at h
  · rename_i e n m hk hl hc
    split at h
    · rename_i hp
      simp only [Bool.and_eq_true, bne_iff_ne, ne_eq] at hp
      obtain ⟨hp, h0⟩ := hp
      rcases cnd_some h with ⟨h1, hA⟩ | ⟨_, h⟩
      · rcases cnd_some hA with ⟨h2, hB⟩ | ⟨_, h⟩
        · rcases cnd_some hB with ⟨h3, hC⟩ | ⟨_, h⟩
          · clear h hA hB
            have h1 : 0 ≤ n := of_decide_eq_true h1
            have h2 : n ≤ m := of_decide_eq_true h2
            obtain ⟨h3, h4⟩ : tn m ≤ 2 ^ 44 ∧ tn m * P.bytesOf e ≤ 2 ^ 44 := of_decide_eq_true h3
            obtain ⟨i, z, hi, hz, hd, _⟩ := zero_ok T hp
            have hlen : z.cells.size = P.cellsOf e := by simpa using (hd default (fun _ => False)).len T (plain_lt hp)
            have hsz : i.size = P.cellsOf e := by simp [Program.cellsOf, hi]
            have hby : i.bytes = P.bytesOf e := by simp [Program.bytesOf, hi]
            obtain ⟨nn, rfl⟩ : ∃ k : Nat, n = k := ⟨n.toNat, by omega⟩
            obtain ⟨mm, rfl⟩ : ∃ k : Nat, m = k := ⟨m.toNat, by omega⟩
            have h3 : mm ≤ 2 ^ 44 := h3
            have h4 : mm * P.bytesOf e ≤ 2 ^ 44 := h4
            refine ⟨_, _, hC, .new fun obsS cv Γ w act q => ?_⟩
            have r1 := q.ops l (by simp [ho, Op.operands])
            have r2 := q.ops c (by simp [ho, Op.operands])
            rw [hl] at r1; rw [hc] at r2
            have hrun := run_make (P := P) w t e i z (ty_slice hk).2 hi hz .i64 .i64 nn mm (by omega) h2 (by
              rw [hby]
              have : ((mm * P.bytesOf e : Nat) : Int) ≤ ((2 ^ 44 : Nat) : Int) := Int.ofNat_le.2 h4
              rw [Int.natCast_mul, Int.mul_comm] at this
              have e2 : (((2 ^ 44 : Nat)) : Int) = 17592186044416 := by decide
              omega) (by have := Int.ofNat_le.2 h3; omega)
            have hle : nn * P.cellsOf e ≤ mm * P.cellsOf e := Nat.mul_le_mul_right _ (by omega)
            have hreps : (reps nn (zeroD P 20 e)).length = nn := by simp [reps]
            refine ⟨.cells (madeCells z.cells (mm * i.size)) e, .arr w.heap.size nn (mm * P.cellsOf e) e false, .slice (some ⟨w.heap.size, 0, none⟩) nn mm, ?_, ?_, ?_, ?_, ?_, ?_⟩
            · simp [execOp, ho, r1.int, r2.int, hrun]
            · intro b hb; simp [Place.block] at hb; exact hb.symm
            · exact ⟨rfl, hreps, by simp, by simp⟩
            · exact ⟨_, alloc_at _ _, by rw [size_madeCells, hsz], hle⟩
            · intro c' ty fz hcell j x hx
              rw [alloc_at] at hcell; cases hcell
              have hj : j < nn := by rw [← hreps]; exact (List.getElem?_eq_some_iff.1 hx).1
              have : x = zeroD P 20 e := by
                have hx' := hx
                simp only [reps, List.getElem?_replicate] at hx'
                split at hx' <;> simp_all
              subst this
              rw [hsz, ← hlen, madeCells_part z.cells mm j (by omega) (by omega)]
              exact hd _ _
            · exact .mk1 (.own (by rw [Env.put_at]) (by omega) (by omega) (by simp)) rfl (by simp) rfl
          · cases h
        · cases h
      · cases h
    · cases h
  · cases h

theorem po_extract {x : Operand} {i : Nat} (ho : o.op = .extract x i) (h : pureOp P lim o st K = some r) : POut P lim o st K r := by
  simp only [pureOp, ho] at h
  split at h
  · rename_i vs hx
    split at h
    · rename_i a ha
      refine ⟨_, _, h, .still fun obsS cv Γ w act q => ?_⟩
      have h1 := q.ops x (by simp [ho, Op.operands])
      rw [hx] at h1
      obtain ⟨us, e1, e2, e3⟩ := h1
      have hi : i < us.size := by rw [← e2]; exact (List.getElem?_eq_some_iff.1 ha).1
      have := e3 i a us[i] ha (by simp [hi])
      refine ⟨us[i], by simp [execOp, ho, e1, Instr.extract, hi], ?_⟩
      by_cases ht : ∃ l, a = .tup l
      · obtain ⟨l, rfl⟩ := ht
        rcases this with h | h
        · cases h
        · exact absurd rfl (VRel.notup h.1 l)
      · exact .of1 this (fun l e => ht ⟨l, e⟩)
    · cases h
  · cases h

end
end Go.Ev

namespace Go.Ev
open Go

section
variable {P : Program} {lim : Option Nat} {o : Oper} {st : St} {R : Type} {K : A → List Ob → Option R} {r : R}

/-! ### Slices of slices -/
def BndIs (st : St) (x : Option Operand) (d i : Int) : Prop := match x with | none => i = d | some x => ∃ k, ev st x = .int k i
def FlagIs (st : St) (hi mx : Option Operand) (f : Bool) (h : Int) (f' : Bool) : Prop := match mx with | none => f' = hiFlag hi f | some x => hi.isSome = true ∧ (∃ k, ev st x = .int k h) ∧ f' = true
structure CutOk (st : St) (n : Nat) (lo hi mx : Option Operand) (f : Bool) (l h : Nat) (f' : Bool) : Prop where
  lo_ : BndIs st lo 0 l
  hi_ : BndIs st hi n h
  mx_ : FlagIs st hi mx f h f'
  lh : l ≤ h
  hn : h ≤ n
theorem bndE_ok {x : Option Operand} {d : Int} {K : Int → Option R} (h : bndE st x d K = some r) : ∃ i, BndIs st x d i ∧ K i = some r := by
  cases x with
  | none => exact ⟨d, rfl, h⟩
  | some x =>
    simp only [bndE] at h
    split at h
    · rename_i k i hx; exact ⟨i, ⟨k, hx⟩, h⟩
    · cases h
theorem cutE_ok {n : Nat} {lo hi mx : Option Operand} {f : Bool} {K : Nat → Nat → Bool → Option R} (h : cutE st n lo hi mx f K = some r) : ∃ l k f', K l (k - l) f' = some r ∧ CutOk st n lo hi mx f l k f' := by
  unfold cutE at h
  obtain ⟨l, hl, h1⟩ := bndE_ok h
  obtain ⟨e, he, h2⟩ := bndE_ok h1
  clear h h1
  have fin : ∀ f', inc l e n = true → K (tn l) (nsub (tn e) (tn l)) f' = some r → FlagIs st hi mx f e f' → ∃ l k f', K l (k - l) f' = some r ∧ CutOk st n lo hi mx f l k f' := fun f' hin hK hm => by
    obtain ⟨a1, a2, a3⟩ : 0 ≤ l ∧ l ≤ e ∧ e ≤ n := of_decide_eq_true hin
    obtain ⟨l', rfl⟩ : ∃ k : Nat, l = k := ⟨l.toNat, by omega⟩
    obtain ⟨e', rfl⟩ : ∃ k : Nat, e = k := ⟨e.toNat, by omega⟩
    exact ⟨l', e', f', hK, hl, he, hm, by omega, by omega⟩
  unfold cutM at h2
  split at h2
  · rcases cnd_some h2 with ⟨hin, h⟩ | ⟨_, h⟩
    · exact fin _ hin h rfl
    · cases h
  · split at h2
    · rename_i hm
      rcases cnd_some h2 with ⟨hin, h⟩ | ⟨_, h⟩
      · rcases cnd_some h with ⟨hem, h⟩ | ⟨_, h⟩
        · have hem := of_decide_eq_true hem
          rw [← hem] at hm
          exact fin _ hin h ⟨rfl, ⟨_, hm⟩, rfl⟩
        · cases h
      · cases h
    · cases h2
theorem run_bound {w : World} {k : IntKind} {i y : Nat} (h : i ≤ y) (code : BoundsCode) : (Instr.sliceBound (.int k i) y code).run P w = .ok i w := by
  simp [Instr.sliceBound, asIntOf, h]
/-- The machine's bounds. -/
theorem CutOk.run {n : Nat} {lo hi mx : Option Operand} {f : Bool} {l h : Nat} {f' : Bool} (c : CutOk st n lo hi mx f l h f') {w : World} {Γ : Env} {act : Act} (cap : Nat) (hcap : n ≤ cap) (isS : Bool)
    (hops : ∀ x, (lo = some x ∨ hi = some x ∨ mx = some x) → VRel P w Γ (ev st x) (act.eval x)) :
    ∃ m, (Instr.sliceBounds isS n cap (lo.map act.eval) (hi.map act.eval) (mx.map act.eval)).run P w = .ok (l, h, m) w ∧ h ≤ m ∧ m ≤ cap ∧ (f' = true → m = h ∨ (f = true ∧ h = n ∧ m = cap)) := by
  obtain ⟨c1, c2, c3, c4, c5⟩ := c
  unfold BndIs at c1 c2
  unfold FlagIs at c3
  have hv : ∀ x k (i : Nat), (lo = some x ∨ hi = some x ∨ mx = some x) → ev st x = .int k i → act.eval x = .int k i := fun x k i hx he => by
    have := hops x hx
    rw [he] at this
    exact this.int
  cases mx with
  | none =>
    refine ⟨cap, ?_, by omega, Nat.le_refl _, ?_⟩
    · cases hi with
      | none =>
        have c2 : h = n := by simp at c2; omega
        subst c2
        cases lo with
        | none => simp at c1; subst c1; simp [Instr.sliceBounds]
        | some x =>
          obtain ⟨k, hk⟩ := c1
          simp [Instr.sliceBounds, hv x k l (.inl rfl) hk, run_bound c4]
      | some y =>
        obtain ⟨k', hk'⟩ := c2
        have e2 := hv y k' h (.inr (.inl rfl)) hk'
        cases lo with
        | none => simp at c1; subst c1; simp [Instr.sliceBounds, e2, run_bound (show h ≤ cap by omega)]
        | some x =>
          obtain ⟨k, hk⟩ := c1
          simp [Instr.sliceBounds, hv x k l (.inl rfl) hk, e2, run_bound c4, run_bound (show h ≤ cap by omega)]
    · intro hf
      cases hi with
      | none => simp [hiFlag] at c2 c3; exact .inr ⟨by rw [← c3]; exact hf, by omega, rfl⟩
      | some y => simp [hiFlag] at c3; rw [hf] at c3; cases c3
  | some z =>
    obtain ⟨c6, ⟨k2, c7⟩, c8⟩ := c3
    have e3 := hv z k2 h (.inr (.inr rfl)) c7
    refine ⟨h, ?_, Nat.le_refl _, by omega, fun _ => .inl rfl⟩
    cases hi with
    | none => cases c6
    | some y =>
      obtain ⟨k', hk'⟩ := c2
      have e2 := hv y k' h (.inr (.inl rfl)) hk'
      cases lo with
      | none => simp at c1; subst c1; simp [Instr.sliceBounds, e2, e3, run_bound (show h ≤ cap by omega), run_bound (Nat.le_refl h)]
      | some x =>
        obtain ⟨k, hk⟩ := c1
        simp [Instr.sliceBounds, hv x k l (.inl rfl) hk, e2, e3, run_bound c4, run_bound (show h ≤ cap by omega), run_bound (Nat.le_refl h)]

theorem slice_ops {t : TypeId} {x : Operand} {lo hi mx : Option Operand} (ho : o.op = .slice t x lo hi mx) {y : Operand} (h : lo = some y ∨ hi = some y ∨ mx = some y) : y ∈ o.op.operands := by
  rcases h with rfl | rfl | rfl <;> simp [ho, Op.operands]
theorem run_slice {w : World} {act : Act} {t e : TypeId} {x : Operand} {lo hi mx : Option Operand} (ho : o.op = .slice t x lo hi mx) (hu : P.underlying t = some (.slice e)) (h0 : P.cellsOf e ≠ 0) {a : Option Addr} {n cap l h m : Nat}
    (hx : act.eval x = .slice a n cap) (hb : (Instr.sliceBounds true n cap (lo.map act.eval) (hi.map act.eval) (mx.map act.eval)).run P w = .ok (l, h, m) w) :
    (execOp act.eval o).run P w = .ok (.value (.slice (if m = l then a else a.map (·.add (l * P.cellsOf e))) (h - l) (m - l))) w := by
  have hs : (sizeOf e).run P w = .ok (P.cellsOf e) w := by
    cases hi : P.info? e with
    | none => simp [Program.cellsOf, hi] at h0
    | some i => simp [sizeOf, typeInfo, hi, Program.cellsOf]
  simp [execOp, ho, Instr.sliceAt, Instr.slice, run_underlying hu, hx, hb, hs]

theorem po_slice {t : TypeId} {x : Operand} {lo hi mx : Option Operand} (ho : o.op = .slice t x lo hi mx) (h : pureOp P lim o st K = some r) : POut P lim o st K r := by
  simp only [pureOp, ho, sliceE] at h
  split at h
  · -- a snapshot
    rename_i e e' nil es f hk hx
    split at h
    · rename_i hc
      simp only [Bool.and_eq_true, beq_iff_eq, bne_iff_ne, ne_eq] at hc
      obtain ⟨rfl, h0⟩ := hc
      obtain ⟨l, k, f', hK, hcut⟩ := cutE_ok h
      refine ⟨_, _, hK, .still fun obsS cv Γ w act q => ?_⟩
      have h1 := q.ops x (by simp [ho, Op.operands])
      rw [hx] at h1
      have h1 := h1.one (by simp) rfl (by simp)
      generalize hve : act.eval x = ve at h1
      have hops : ∀ y, (lo = some y ∨ hi = some y ∨ mx = some y) → VRel P w Γ (ev st y) (act.eval y) := fun y hy => q.ops y (slice_ops ho hy)
      cases h1 with
      | snapNil hn he =>
        subst he
        obtain ⟨m, hb, m1, m2, m3⟩ := hcut.run 0 (by simp [len]) true hops
        have : k = 0 := by have := hcut.hn; simp [len] at this; exact this
        subst this
        have : l = 0 := by have := hcut.lh; omega
        subst this
        have : m = 0 := by omega
        subst this
        refine ⟨_, run_slice ho (ty_slice hk).2 h0 hve hb, ?_⟩
        exact .mk1 (.snapNil hn (by simp [cut])) rfl (by simp) rfl
      | snapE hn he =>
        subst he
        obtain ⟨m, hb, m1, m2, m3⟩ := hcut.run 0 (by simp [len]) true hops
        have : k = 0 := by have := hcut.hn; simp [len] at this; exact this
        subst this
        have : l = 0 := by have := hcut.lh; omega
        subst this
        have : m = 0 := by omega
        subst this
        refine ⟨_, run_slice ho (ty_slice hk).2 h0 hve hb, ?_⟩
        exact .mk1 (.snapE hn (by simp [cut])) rfl (by simp) rfl
      | snap hn hf hl hcc hfull css hcell hd =>
        rename_i b off n cap
        subst hl
        obtain ⟨m, hb, m1, m2, m3⟩ := hcut.run cap hcc true hops
        refine ⟨_, run_slice ho (ty_slice hk).2 h0 hve hb, ?_⟩
        have c4 := hcut.lh
        have c5 : k ≤ es.length := hcut.hn
        have e1 : (if m = l then some (⟨b, off, none⟩ : Addr) else (some (⟨b, off, none⟩ : Addr)).map (·.add (l * P.cellsOf e))) = some ⟨b, if m = l then off else off + l * P.cellsOf e, none⟩ := by
          split
          · rfl
          · simp [Addr.add_mid]
        rw [e1]
        refine .mk1 (.snap hn hf ?_ (Nat.sub_le_sub_right m1 l) ?_ (fun i => css (l + i)) (fun i hi => ?_) (fun i y hy => ?_)) rfl (by simp) rfl
        · show (cut es l (k - l)).length = k - l
          simp only [cut, List.length_take, List.length_drop]
          omega
        · intro hf'
          rcases m3 hf' with h | ⟨h, h', h''⟩
          · omega
          · have := hfull h
            have h' : k = es.length := h'
            omega
        · obtain ⟨g1, g2⟩ := hcell (l + i) (by omega)
          refine ⟨g1, ?_⟩
          rw [if_neg (by omega)]
          rw [Nat.add_mul, ← Nat.add_assoc] at g2
          exact g2
        · simp only [cut, List.getElem?_take, List.getElem?_drop] at hy
          split at hy
          · exact hd _ _ hy
          · cases hy
    · cases h
  · -- an array
    rename_i e q hk hx
    split at h
    · rename_i e' es nilable f rw hob
      split at h
      · rename_i hc
        simp only [Bool.and_eq_true, beq_iff_eq, bne_iff_ne, ne_eq] at hc
        obtain ⟨rfl, h0⟩ := hc
        obtain ⟨l, k, f', hK, hcut⟩ := cutE_ok h
        refine ⟨_, _, hK, .still fun obsS cv Γ w act c => ?_⟩
        have h1 := c.ops x (by simp [ho, Op.operands])
        rw [hx] at h1
        have h1 := h1.one (by simp) rfl (by simp)
        generalize hve : act.eval x = ve at h1
        have hops : ∀ y, (lo = some y ∨ hi = some y ∨ mx = some y) → VRel P w Γ (ev st y) (act.eval y) := fun y hy => c.ops y (slice_ops ho hy)
        cases h1 with
        | ownNil hp =>
          obtain ⟨hs, _⟩ := c.mem.at c.wk0 hp hob
          obtain ⟨_, _, he⟩ := hs
          subst he
          obtain ⟨m, hb, m1, m2, m3⟩ := hcut.run 0 (by simp [len]) true hops
          have : k = 0 := by have := hcut.hn; simp [len] at this; exact this
          subst this
          have : l = 0 := by have := hcut.lh; omega
          subst this
          have : m = 0 := by omega
          subst this
          refine ⟨_, run_slice ho (ty_slice hk).2 h0 hve hb, ?_⟩
          exact .mk1 (.subNil hp) rfl (by simp) rfl
        | own hp hcc hsz hfull =>
          rename_i b n size e2 full cap
          obtain ⟨hs, _⟩ := c.mem.at c.wk0 hp hob
          obtain ⟨rfl, hlen, _, hff⟩ := hs
          have hlen : len es = n := hlen
          rw [hlen] at hcut
          obtain ⟨m, hb, m1, m2, m3⟩ := hcut.run cap hcc true hops
          refine ⟨_, run_slice ho (ty_slice hk).2 h0 hve hb, ?_⟩
          have c4 := hcut.lh
          have c5 := hcut.hn
          have e1 : (if m = l then some (⟨b, 0, none⟩ : Addr) else (some (⟨b, 0, none⟩ : Addr)).map (·.add (l * P.cellsOf e))) = some ⟨b, if m = l then 0 else l * P.cellsOf e, none⟩ := by
            split
            · rfl
            · simp [Addr.add_mid]
          rw [e1]
          refine .mk1 (.sub hp (by omega) (by omega) ?_ ?_ ?_) rfl (by simp) rfl
          · have : (l + (m - l)) * P.cellsOf e ≤ cap * P.cellsOf e := Nat.mul_le_mul_right _ (by omega)
            omega
          · intro hf'
            rcases m3 hf' with h | ⟨h, h', h''⟩
            · omega
            · have := hfull (hff h); omega
          · by_cases hml : m = l
            · exact .inr (by omega)
            · exact .inl (by rw [if_neg hml])
      · cases h
    · cases h
  · -- a part of an array
    rename_i e q b0 n0 f hk hx
    split at h
    · rename_i e' es nilable f0 rw hob
      split at h
      · rename_i hc
        simp only [Bool.and_eq_true, beq_iff_eq, bne_iff_ne, ne_eq] at hc
        obtain ⟨rfl, h0⟩ := hc
        obtain ⟨l, k, f', hK, hcut⟩ := cutE_ok h
        refine ⟨_, _, hK, .still fun obsS cv Γ w act c => ?_⟩
        have h1 := c.ops x (by simp [ho, Op.operands])
        rw [hx] at h1
        have h1 := h1.one (by simp) rfl (by simp)
        generalize hve : act.eval x = ve at h1
        have hops : ∀ y, (lo = some y ∨ hi = some y ∨ mx = some y) → VRel P w Γ (ev st y) (act.eval y) := fun y hy => c.ops y (slice_ops ho hy)
        cases h1 with
        | subNil hp =>
          obtain ⟨m, hb, m1, m2, m3⟩ := hcut.run 0 (Nat.le_refl _) true hops
          have : k = 0 := by have := hcut.hn; omega
          subst this
          have : l = 0 := by have := hcut.lh; omega
          subst this
          have : m = 0 := by omega
          subst this
          refine ⟨_, run_slice ho (ty_slice hk).2 h0 hve hb, ?_⟩
          exact .mk1 (.subNil hp) rfl (by simp) rfl
        | sub hp hl hcc hsz hfull hoff =>
          rename_i b len size e2 full cap off
          obtain ⟨hs, _⟩ := c.mem.at c.wk0 hp hob
          obtain ⟨rfl, hlen, _, hff⟩ := hs
          obtain ⟨m, hb, m1, m2, m3⟩ := hcut.run cap hcc true hops
          refine ⟨_, run_slice ho (ty_slice hk).2 h0 hve hb, ?_⟩
          have c4 := hcut.lh
          have c5 := hcut.hn
          have e1 : (if m = l then some (⟨b, off, none⟩ : Addr) else (some (⟨b, off, none⟩ : Addr)).map (·.add (l * P.cellsOf e))) = some ⟨b, if m = l then off else off + l * P.cellsOf e, none⟩ := by
            split
            · rfl
            · simp [Addr.add_mid]
          rw [e1]
          refine .mk1 (.sub hp (by unfold nadd; omega) (by omega) ?_ ?_ ?_) rfl (by simp) rfl
          · have : (b0 + l + (m - l)) * P.cellsOf e ≤ (b0 + cap) * P.cellsOf e := Nat.mul_le_mul_right _ (by omega)
            unfold nadd; omega
          · intro hf'
            rcases m3 hf' with h | ⟨h, h', h''⟩
            · omega
            · have := hfull h; omega
          · by_cases hml : m = l
            · exact .inr (by omega)
            · rcases hoff with hoff | hoff
              · exact .inl (by rw [if_neg hml, hoff]; unfold nadd; rw [Nat.add_mul])
              · omega
      · cases h
    · cases h
  · -- nil
    rename_i e hk hx
    split at h
    · rename_i h0
      have h0 : P.cellsOf e ≠ 0 := by simpa using h0
      obtain ⟨l, k, f', hK, hcut⟩ := cutE_ok h
      refine ⟨_, _, hK, .still fun obsS cv Γ w act q => ?_⟩
      have h1 := q.ops x (by simp [ho, Op.operands])
      rw [hx] at h1
      have h1 := h1.one (by simp) rfl (by simp)
      generalize hve : act.eval x = ve at h1
      have hops : ∀ y, (lo = some y ∨ hi = some y ∨ mx = some y) → VRel P w Γ (ev st y) (act.eval y) := fun y hy => q.ops y (slice_ops ho hy)
      cases h1
      obtain ⟨m, hb, m1, m2, m3⟩ := hcut.run 0 (Nat.le_refl _) true hops
      have : k = 0 := by have := hcut.hn; omega
      subst this
      have : l = 0 := by have := hcut.lh; omega
      subst this
      have : m = 0 := by omega
      subst this
      refine ⟨_, run_slice ho (ty_slice hk).2 h0 hve hb, ?_⟩
      exact .mk1 .nsl rfl (by simp) rfl
    · cases h
  · -- a text
    rename_i s hk hx
    split at h
    · obtain ⟨l, k, f', hK, hcut⟩ := cutE_ok h
      refine ⟨_, _, hK, .still fun obsS cv Γ w act q => ?_⟩
      have h1 := q.ops x (by simp [ho, Op.operands])
      rw [hx] at h1
      obtain ⟨u, e1, e2⟩ := h1.str
      have hops : ∀ y, (lo = some y ∨ hi = some y ∨ none = some y) → VRel P w Γ (ev st y) (act.eval y) := fun y hy => by
        refine q.ops y (slice_ops ho ?_)
        rcases hy with h | h | h
        · exact .inl h
        · exact .inr (.inl h)
        · cases h
      have hlen : len s = u.size := by rw [e2]; show u.data.toList.length = u.data.size; simp
      rw [hlen] at hcut
      obtain ⟨m, hb, m1, m2, m3⟩ := hcut.run u.size (Nat.le_refl _) false hops
      refine ⟨.string (u.extract l k), ?_, ?_⟩
      · simp at hb
        simp [execOp, ho, Instr.sliceAt, Instr.slice, run_underlying (ty_str hk).2, e1, hb]
      · refine .mk1 (.str ?_) rfl (by simp) rfl
        rw [e2]
        simp [scut, ByteArray.data_extract]
    · cases h
  · cases h

end
end Go.Ev
