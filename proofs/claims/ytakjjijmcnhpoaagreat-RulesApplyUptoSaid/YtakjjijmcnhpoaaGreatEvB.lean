/- The evaluator E: how plain data lie in memory (relations, and that they last). The evaluator E: tables of types, memory, and what a step does to it. The evaluator E: operations that write nothing, one by one. -/
import Derived.Test.YtakjjijmcnhpoaaGreatEvA
import Derived.Orders
import Derived.Scope
import Derived.LoopN
import Derived.Deep.MidRow
import Derived.Laws.MakeOwn
import Derived.Laws.AppendOwn
import Derived.Great.BuildSlice
import Derived.Laws.CopyRow
import Derived.Below
import Derived.Laws.Rows
namespace Go.Ev

theorem cnd_some {α : Type} {b : Bool} {x y : Option α} {r : α} (h : cnd b x y = some r) : (b = true ∧ x = some r) ∨ (b = false ∧ y = some r) := by
  cases b
  · exact .inr ⟨rfl, h⟩
  · exact .inl ⟨rfl, h⟩
theorem obind_some {α β : Type} {x : Option α} {f : α → Option β} {r : β} (h : obind x f = some r) : ∃ a, x = some a ∧ f a = some r := by
  cases x with
  | none => cases h
  | some a => exact ⟨a, rfl, h⟩

/-- These cells lie there. -/
def CellsAt (w : World) (b off : Nat) (cs : List Value) : Prop := ∀ (i : Nat) x, cs[i]? = some x → w.cell? ⟨b, off + i, none⟩ = some x

/-- A piece of memory holds data of a type. Slices lie in blocks of which 'Fz' says that nobody writes them any more. -/
inductive DRel (P : Program) (w : World) (Fz : Nat → Prop) : TypeId → D → List Value → Prop
  | int {t k d n} (ht : P.underlying t = some (.int k)) (hn : d.n = n) : DRel P w Fz t d [.int k n]
  | bool {t d b} (ht : P.underlying t = some .bool) (hb : d.b = b) : DRel P w Fz t d [.bool b]
  | str {t d} {s : ByteArray} (ht : P.underlying t = some .string) (hs : d.s = s.data.toList) : DRel P w Fz t d [.string s]
  | st {t fs d cs} (ht : P.underlying t = some (.struct fs)) (hl : cs.length = P.cellsOf t) (ho : ∀ v ∈ cs, v.oneCell' = true)
      (hx : ∀ (i : Nat) f, fs[i]? = some f → ((cs.drop f.offset).take (P.cellsOf f.type)).length = P.cellsOf f.type)
      (h : ∀ (i : Nat) f, fs[i]? = some f → DRel P w Fz f.type (d.f i) ((cs.drop f.offset).take (P.cellsOf f.type))) : DRel P w Fz t d cs
  | nil {t e d} (ht : P.underlying t = some (.slice e)) (hn : d.nl = true) (he : d.es = []) : DRel P w Fz t d [.slice none 0 0]
  | slE {t e d a} (ht : P.underlying t = some (.slice e)) (hn : d.nl = false) (he : d.es = []) : DRel P w Fz t d [.slice (some a) 0 0]
  | sl {t e d b off n cap} (ht : P.underlying t = some (.slice e)) (hn : d.nl = false) (hf : Fz b) (hl : d.es.length = n) (hc : n ≤ cap) (css : Nat → List Value)
      (hcell : ∀ i, i < n → (css i).length = P.cellsOf e ∧ CellsAt w b (off + i * P.cellsOf e) (css i))
      (h : ∀ (i : Nat) x, d.es[i]? = some x → DRel P w Fz e x (css i)) : DRel P w Fz t d [.slice (some ⟨b, off, none⟩) n cap]

theorem cell_same {w w' : World} {a : Addr} (h : w'.heap[a.block]? = w.heap[a.block]?) : w'.cell? a = w.cell? a := by
  unfold World.cell?; rw [h]
theorem CellsAt.same {w w' : World} {b off : Nat} {cs : List Value} (h : CellsAt w b off cs) (hb : w'.heap[b]? = w.heap[b]?) : CellsAt w' b off cs :=
  fun i x hx => (cell_same (a := ⟨b, off + i, none⟩) hb).trans (h i x hx)

theorem DRel.mono {P : Program} {w w' : World} {Fz Fz' : Nat → Prop} {t : TypeId} {d : D} {cs : List Value} (h : DRel P w Fz t d cs)
    (hF : ∀ b, Fz b → Fz' b) (hs : ∀ b, Fz b → w'.heap[b]? = w.heap[b]?) : DRel P w' Fz' t d cs := by
  induction h with
  | int ht hn => exact .int ht hn
  | bool ht hb => exact .bool ht hb
  | str ht h => exact .str ht h
  | st ht hl ho hx h ih => exact .st ht hl ho hx ih
  | nil ht hn he => exact .nil ht hn he
  | slE ht hn he => exact .slE ht hn he
  | sl ht hn hf hl hc css hcell h ih =>
    exact .sl ht hn (hF _ hf) hl hc css (fun i hi => ⟨(hcell i hi).1, (hcell i hi).2.same (hs _ hf)⟩) ih

/-- Where a thing of the evaluator lies. -/
inductive Place where
  | nil (e : TypeId)
  | arr (b len size : Nat) (e : TypeId) (full : Bool)
  | var (b : Nat) (t : TypeId)
  | map (b : Nat)
def Place.block : Place → Option Nat
  | .nil _ => none
  | .arr b _ _ _ _ => some b
  | .var b _ => some b
  | .map b => some b
structure Env where
  β : Nat → Option Place
  Fz : Nat → Prop

/-- A path's type and offset. -/
def offAt (P : Program) : TypeId → List Nat → Option (TypeId × Nat)
  | t, [] => some (t, 0)
  | t, i :: p =>
    match ty P t with
    | .struct fs => match fs[i]? with
      | some (ft, o) => match offAt P ft p with | some (u, k) => some (u, o + k) | none => none
      | none => none
    | _ => none

def Place.elem : Place → Option TypeId
  | .nil e => some e
  | .arr _ _ _ e _ => some e
  | _ => none
/-- Does a value fit a type? -/
def Fit (P : Program) (Γ : Env) (t : TypeId) : A → Prop
  | .int k _ => P.underlying t = some (.int k)
  | .bool _ => P.underlying t = some .bool
  | .str _ => P.underlying t = some .string
  | .dat t' _ => t' = t
  | .st t' _ => t' = t
  | .nsl => ∃ e, P.underlying t = some (.slice e)
  | .snap e _ _ _ => P.underlying t = some (.slice e)
  | .own o => ∃ p e, Γ.β o = some p ∧ p.elem = some e ∧ P.underlying t = some (.slice e)
  | .sub o _ _ _ => ∃ p e, Γ.β o = some p ∧ p.elem = some e ∧ P.underlying t = some (.slice e)
  | _ => True

def VShape (a : A) : Value → Prop
  | .agg _ => a.isS = true
  | .tuple _ => False
  | _ => a.isS = false

/-- What a value of the evaluator says of cells. -/
inductive CRel (P : Program) (w : World) (Γ : Env) : A → List Value → Prop
  | junk {cs} (h : ∀ v ∈ cs, v.oneCell' = true) : CRel P w Γ .junk cs
  | int {k n} : CRel P w Γ (.int k n) [.int k n]
  | bool {b} : CRel P w Γ (.bool b) [.bool b]
  | str {l} {s : ByteArray} (h : l = s.data.toList) : CRel P w Γ (.str l) [.string s]
  | dat {t fs d cs} (ht : P.underlying t = some (.struct fs)) (h : DRel P w Γ.Fz t d cs) : CRel P w Γ (.dat t d) cs
  | st {t fs as cs} (ht : P.underlying t = some (.struct fs)) (hl : cs.length = P.cellsOf t) (hn : as.length = fs.size) (ho : ∀ v ∈ cs, v.oneCell' = true)
      (hy : ∀ (i : Nat) f a, fs[i]? = some f → as[i]? = some a → Fit P Γ f.type a)
      (hx : ∀ (i : Nat) f, fs[i]? = some f → ((cs.drop f.offset).take (P.cellsOf f.type)).length = P.cellsOf f.type)
      (h : ∀ (i : Nat) f a, fs[i]? = some f → as[i]? = some a → CRel P w Γ a ((cs.drop f.offset).take (P.cellsOf f.type))) : CRel P w Γ (.st t as) cs
  | nsl : CRel P w Γ .nsl [.slice none 0 0]
  | snapNil {e nil es f} (hn : nil = true) (he : es = []) : CRel P w Γ (.snap e nil es f) [.slice none 0 0]
  | snapE {e nil es f a} (hn : nil = false) (he : es = []) : CRel P w Γ (.snap e nil es f) [.slice (some a) 0 0]
  | snap {e nil es f b off n cap} (hn : nil = false) (hf : Γ.Fz b) (hl : es.length = n) (hc : n ≤ cap) (hfull : f = true → cap = n) (css : Nat → List Value)
      (hcell : ∀ i, i < n → (css i).length = P.cellsOf e ∧ CellsAt w b (off + i * P.cellsOf e) (css i))
      (h : ∀ (i : Nat) x, es[i]? = some x → DRel P w Γ.Fz e x (css i)) : CRel P w Γ (.snap e nil es f) [.slice (some ⟨b, off, none⟩) n cap]
  | ownNil {o e} (hp : Γ.β o = some (.nil e)) : CRel P w Γ (.own o) [.slice none 0 0]
  | own {o b n size e full cap} (hp : Γ.β o = some (.arr b n size e full)) (hc : n ≤ cap) (hs : cap * P.cellsOf e ≤ size) (hf : full = true → cap = n) :
      CRel P w Γ (.own o) [.slice (some ⟨b, 0, none⟩) n cap]
  | subNil {o e f} (hp : Γ.β o = some (.nil e)) : CRel P w Γ (.sub o 0 0 f) [.slice none 0 0]
  | sub {o b len size e full lo n cap off f} (hp : Γ.β o = some (.arr b len size e full)) (hl : lo + n ≤ len) (hc : n ≤ cap) (hs : (lo + cap) * P.cellsOf e ≤ size)
      (hf : f = true → cap = n) (ho : off = lo * P.cellsOf e ∨ cap = 0) : CRel P w Γ (.sub o lo n f) [.slice (some ⟨b, off, none⟩) n cap]
  | ref {o b t path u off} (hp : Γ.β o = some (.var b t)) (ho : offAt P t path = some (u, off)) : CRel P w Γ (.ref o path) [.pointer (some ⟨b, off, none⟩)]
  | eref {o b len size e full i path u off} (hp : Γ.β o = some (.arr b len size e full)) (hi : i < len) (ho : offAt P e path = some (u, off)) :
      CRel P w Γ (.eref o i path) [.pointer (some ⟨b, i * P.cellsOf e + off, none⟩)]
  | dref {t d b off cs} (hf : Γ.Fz b) (hl : cs.length = P.cellsOf t) (hc : CellsAt w b off cs) (h : DRel P w Γ.Fz t d cs) : CRel P w Γ (.dref t d) [.pointer (some ⟨b, off, none⟩)]
  | nptr : CRel P w Γ .nptr [.pointer none]
  | fn {f fa ca} {fv cv : Array Value} (h1 : fa.length = fv.size) (h2 : ca.length = cv.size)
      (sa : ∀ (i : Nat) a v, fa[i]? = some a → fv[i]? = some v → VShape a v)
      (sc : ∀ (i : Nat) a v, ca[i]? = some a → cv[i]? = some v → VShape a v)
      (ha : ∀ (i : Nat) a v, fa[i]? = some a → fv[i]? = some v → CRel P w Γ a v.cells.toList)
      (hc : ∀ (i : Nat) a v, ca[i]? = some a → cv[i]? = some v → CRel P w Γ a v.cells.toList) : CRel P w Γ (.fn f fa ca) [.func (.func f) fv cv]
  | mapr {o b} (hp : Γ.β o = some (.map b)) : CRel P w Γ (.mapr o) [.map (some b)]

/-- What a temporary of the evaluator says of one of the machine. -/
def VRel1 (P : Program) (w : World) (Γ : Env) (a : A) (v : Value) : Prop := a = .junk ∨ (CRel P w Γ a v.cells.toList ∧ VShape a v)
def VRel (P : Program) (w : World) (Γ : Env) (a : A) (v : Value) : Prop :=
  match a with
  | .tup as => ∃ vs : Array Value, v = .tuple vs ∧ as.length = vs.size ∧ ∀ (i : Nat) a x, as[i]? = some a → vs[i]? = some x → VRel1 P w Γ a x
  | a => VRel1 P w Γ a v

/-- What one environment says another one says too (of the things in S). -/
structure Ext (S : Nat → Prop) (w w' : World) (Γ Γ' : Env) : Prop where
  fz : ∀ b, Γ.Fz b → Γ'.Fz b
  fzs : ∀ b, Γ.Fz b → w'.heap[b]? = w.heap[b]?
  keep : ∀ o p, S o → Γ.β o = some p → Γ'.β o = some p

theorem names_getElem {o : Nat} : ∀ {l : List A} {i : Nat} {a : A}, l[i]? = some a → A.names o a = true → A.namesL o l = true
  | [], _, _, h, _ => by simp at h
  | b :: l, 0, a, h, hn => by simp at h; subst h; simp [A.namesL, hn]
  | b :: l, i + 1, a, h, hn => by simp at h; simp [A.namesL, names_getElem h hn]

theorem Fit.ext {P : Program} {w w' : World} {Γ Γ' : Env} {a : A} {t : TypeId} {S : Nat → Prop} (h : Fit P Γ t a) (hS : ∀ o, a.names o = true → S o) (e : Ext S w w' Γ Γ') : Fit P Γ' t a := by
  cases a with
  | own o => obtain ⟨p, el, h1, h2⟩ := h; exact ⟨p, el, e.keep _ _ (hS _ (by simp [A.names])) h1, h2⟩
  | sub o lo n f => obtain ⟨p, el, h1, h2⟩ := h; exact ⟨p, el, e.keep _ _ (hS _ (by simp [A.names])) h1, h2⟩
  | _ => exact h
theorem CRel.ext {P : Program} {w w' : World} {Γ Γ' : Env} {a : A} {cs : List Value} (h : CRel P w Γ a cs) : ∀ {S : Nat → Prop}, (∀ o, a.names o = true → S o) → Ext S w w' Γ Γ' → CRel P w' Γ' a cs := by
  induction h with
  | junk h => exact fun _ _ => .junk h
  | int => exact fun _ _ => .int
  | bool => exact fun _ _ => .bool
  | str h => exact fun _ _ => .str h
  | dat ht h => exact fun _ e => .dat ht (h.mono e.fz e.fzs)
  | st ht hl hn ho hy hx h ih =>
    exact fun hS e => .st ht hl hn ho (fun i f a hf ha => (hy i f a hf ha).ext (fun o ho => hS o (by simp only [A.names]; exact names_getElem ha ho)) e) hx fun i f a hf ha => ih i f a hf ha (fun o ho => hS o (by simp only [A.names]; exact names_getElem ha ho)) e
  | nsl => exact fun _ _ => .nsl
  | snapNil hn he => exact fun _ _ => .snapNil hn he
  | snapE hn he => exact fun _ _ => .snapE hn he
  | snap hn hf hl hc hfull css hcell h =>
    exact fun _ e => .snap hn (e.fz _ hf) hl hc hfull css (fun i hi => ⟨(hcell i hi).1, (hcell i hi).2.same (e.fzs _ hf)⟩) (fun i x hx => (h i x hx).mono e.fz e.fzs)
  | ownNil hp => exact fun hS e => .ownNil (e.keep _ _ (hS _ (by simp [A.names])) hp)
  | own hp hc hs hf => exact fun hS e => .own (e.keep _ _ (hS _ (by simp [A.names])) hp) hc hs hf
  | subNil hp => exact fun hS e => .subNil (e.keep _ _ (hS _ (by simp [A.names])) hp)
  | sub hp hl hc hs hf ho => exact fun hS e => .sub (e.keep _ _ (hS _ (by simp [A.names])) hp) hl hc hs hf ho
  | ref hp ho => exact fun hS e => .ref (e.keep _ _ (hS _ (by simp [A.names])) hp) ho
  | eref hp hi ho => exact fun hS e => .eref (e.keep _ _ (hS _ (by simp [A.names])) hp) hi ho
  | dref hf hl hc h => exact fun _ e => .dref (e.fz _ hf) hl (hc.same (e.fzs _ hf)) (h.mono e.fz e.fzs)
  | nptr => exact fun _ _ => .nptr
  | fn h1 h2 sa sc ha hc iha ihc =>
    exact fun hS e => .fn h1 h2 sa sc (fun i a v h h' => iha i a v h h' (fun o ho => hS o (by simp only [A.names, Bool.or_eq_true]; exact .inl (names_getElem h ho))) e)
      (fun i a v h h' => ihc i a v h h' (fun o ho => hS o (by simp only [A.names, Bool.or_eq_true]; exact .inr (names_getElem h ho))) e)
  | mapr hp => exact fun hS e => .mapr (e.keep _ _ (hS _ (by simp [A.names])) hp)

theorem VRel1.ext {P : Program} {w w' : World} {Γ Γ' : Env} {a : A} {v : Value} {S : Nat → Prop} (h : VRel1 P w Γ a v) (hS : ∀ o, a.names o = true → S o) (e : Ext S w w' Γ Γ') : VRel1 P w' Γ' a v :=
  h.imp id fun h => ⟨h.1.ext hS e, h.2⟩
theorem VRel.ext {P : Program} {w w' : World} {Γ Γ' : Env} {a : A} {v : Value} {S : Nat → Prop} (h : VRel P w Γ a v) (hS : ∀ o, a.names o = true → S o) (e : Ext S w w' Γ Γ') : VRel P w' Γ' a v := by
  unfold VRel at *
  split
  · rename_i as
    obtain ⟨vs, h1, h2, h3⟩ := h
    exact ⟨vs, h1, h2, fun i a x ha hx => (h3 i a x ha hx).ext (fun o ho => hS o (by simp only [A.names]; exact names_getElem ha ho)) e⟩
  · rename_i hne
    split at h
    · exact absurd rfl (hne _)
    · exact h.ext hS e

end Go.Ev

namespace Go.Ev
open Go

/-! ### Tables of types -/
def layout (P : Program) : Nat → List Field → Option Nat
  | o, [] => some o
  | o, f :: r => if f.offset == o then layout P (o + P.cellsOf f.type) r else none
mutual
def zeroC (P : Program) : Nat → TypeId → List Value → Bool
  | 0, _, _ => false
  | n + 1, t, cs =>
    match P.underlying t, cs with
    | some (.int k), [.int k' x] => k == k' && x == 0
    | some .bool, [.bool b] => !b
    | some .string, [.string s] => s.size == 0
    | some (.slice _), [.slice none 0 0] => true
    | some (.struct fs), cs => zeroF P n fs.toList cs
    | _, _ => false
def zeroF (P : Program) : Nat → List Field → List Value → Bool
  | _, [], cs => cs.isEmpty
  | 0, _, _ => false
  | n + 1, f :: r, cs => (cs.take (P.cellsOf f.type)).length == P.cellsOf f.type && zeroC P n f.type (cs.take (P.cellsOf f.type)) && zeroF P n r (cs.drop (P.cellsOf f.type))
end
def okType (P : Program) (t : TypeId) : Bool :=
  (match P.underlying t with
   | some (.int _) | some .bool | some .string | some (.slice _) | some (.pointer _) | some (.func ..) | some (.map _ _) => P.cellsOf t == 1
   | some (.struct fs) => layout P 0 fs.toList == some (P.cellsOf t)
   | _ => true) &&
  (!plainT P 20 t || (match P.info? t with
    | some i => match i.zero with
      | some z => zeroC P 60 t z.cells.toList && (match P.underlying t, z with | some (.struct _), .agg _ => true | some (.struct _), _ => false | _, .agg _ => false | _, .tuple _ => false | _, _ => true)
      | none => false
    | none => false))
def okTypes (P : Program) : Bool := (List.range P.types.size).all (okType P)

structure TabOk (P : Program) : Prop where
  ok : ∀ t, t < P.types.size → okType P t = true
theorem TabOk.of {P : Program} (h : okTypes P = true) : TabOk P := ⟨fun t ht => List.all_eq_true.1 h t (List.mem_range.2 ht)⟩

theorem info_of_underlying {P : Program} {t : TypeId} {d : TypeDesc} (h : P.underlying t = some d) : ∃ i, P.info? t = some i := by
  cases hi : P.info? t with
  | some i => exact ⟨i, rfl⟩
  | none => unfold Program.underlying at h; simp [hi] at h

theorem ty_lt {P : Program} {t : TypeId} {y : Ty} (h : ty P t = y) (hy : y ≠ .other) : t < P.types.size ∧ tyOf P t = y := by
  unfold ty at h
  split at h
  · rename_i hb
    exact ⟨Nat.lt_of_succ_le (Nat.le_of_ble_eq_true hb), h⟩
  · exact absurd h.symm hy
theorem ty_int {P : Program} {t : TypeId} {k : IntKind} (h : ty P t = .int k) : t < P.types.size ∧ P.underlying t = some (.int k) := by
  obtain ⟨hl, h⟩ := ty_lt h (by simp)
  refine ⟨hl, ?_⟩
  unfold tyOf at h; split at h <;> simp_all
theorem ty_bool {P : Program} {t : TypeId} (h : ty P t = .bool) : t < P.types.size ∧ P.underlying t = some .bool := by
  obtain ⟨hl, h⟩ := ty_lt h (by simp)
  refine ⟨hl, ?_⟩
  unfold tyOf at h; split at h <;> simp_all
theorem ty_str {P : Program} {t : TypeId} (h : ty P t = .str) : t < P.types.size ∧ P.underlying t = some .string := by
  obtain ⟨hl, h⟩ := ty_lt h (by simp)
  refine ⟨hl, ?_⟩
  unfold tyOf at h; split at h <;> simp_all
theorem ty_slice {P : Program} {t e : TypeId} (h : ty P t = .slice e) : t < P.types.size ∧ P.underlying t = some (.slice e) := by
  obtain ⟨hl, h⟩ := ty_lt h (by simp)
  refine ⟨hl, ?_⟩
  unfold tyOf at h; split at h <;> simp_all
theorem ty_struct {P : Program} {t : TypeId} {fs : List (TypeId × Nat)} (h : ty P t = .struct fs) : t < P.types.size ∧ ∃ fa, P.underlying t = some (.struct fa) ∧ fs = fa.toList.map fun f => (f.type, f.offset) := by
  obtain ⟨hl, h⟩ := ty_lt h (by simp)
  refine ⟨hl, ?_⟩
  unfold tyOf at h; split at h <;> simp_all
theorem ty_ptr {P : Program} {t e : TypeId} (h : ty P t = .ptr e) : t < P.types.size ∧ P.underlying t = some (.pointer e) := by
  obtain ⟨hl, h⟩ := ty_lt h (by simp)
  refine ⟨hl, ?_⟩
  unfold tyOf at h; split at h <;> simp_all
theorem ty_map {P : Program} {t k v : TypeId} (h : ty P t = .map k v) : t < P.types.size ∧ P.underlying t = some (.map k v) := by
  obtain ⟨hl, h⟩ := ty_lt h (by simp)
  refine ⟨hl, ?_⟩
  unfold tyOf at h; split at h <;> simp_all
theorem ty_func {P : Program} {t : TypeId} (h : ty P t = .func) : t < P.types.size ∧ ∃ a b c, P.underlying t = some (.func a b c) := by
  obtain ⟨hl, h⟩ := ty_lt h (by simp)
  refine ⟨hl, ?_⟩
  unfold tyOf at h; split at h <;> simp_all

section
variable {P : Program} (T : TabOk P)
include T
theorem TabOk.one {t : TypeId} {d : TypeDesc} (hl : t < P.types.size) (h : P.underlying t = some d) (hd : match d with | .int _ | .bool | .string | .slice _ | .pointer _ | .func .. | .map _ _ => True | _ => False) : P.cellsOf t = 1 := by
  have := T.ok t hl
  unfold okType at this
  rw [h] at this
  cases d <;> simp_all
theorem TabOk.lay {t : TypeId} {fs : Array Field} (hl : t < P.types.size) (h : P.underlying t = some (.struct fs)) : layout P 0 fs.toList = some (P.cellsOf t) := by
  have := T.ok t hl
  unfold okType at this
  rw [h] at this
  simp at this
  exact this.1
end

theorem layout_get {P : Program} : ∀ {fs : List Field} {o n : Nat}, layout P o fs = some n → ∀ {i : Nat} {f : Field}, fs[i]? = some f → o ≤ f.offset ∧ f.offset + P.cellsOf f.type ≤ n
  | [], _, _, _, _, _, h => by simp at h
  | g :: r, o, n, h, i, f, hf => by
    simp only [layout] at h
    split at h
    · rename_i hg
      have hg : g.offset = o := by simpa using hg
      have hmono : ∀ {fs : List Field} {o n : Nat}, layout P o fs = some n → o ≤ n := by
        intro fs
        induction fs with
        | nil => intro o n h; simp [layout] at h; omega
        | cons a l ih =>
          intro o n h
          simp only [layout] at h
          split at h
          · have := ih h; omega
          · cases h
      cases i with
      | zero => simp at hf; subst hf; have := hmono h; omega
      | succ i =>
        have := layout_get h (i := i) (by simpa using hf)
        omega
    · cases h
theorem layout_apart {P : Program} : ∀ {fs : List Field} {o n : Nat}, layout P o fs = some n → ∀ {i j : Nat} {f g : Field}, fs[i]? = some f → fs[j]? = some g → i < j → f.offset + P.cellsOf f.type ≤ g.offset
  | [], _, _, _, _, _, _, _, h, _, _ => by simp at h
  | a :: r, o, n, h, i, j, f, g, hf, hg, hij => by
    simp only [layout] at h
    split at h
    · rename_i ha
      have ha : a.offset = o := by simpa using ha
      obtain ⟨j, rfl⟩ : ∃ k, j = k + 1 := ⟨j - 1, by omega⟩
      have hg' : r[j]? = some g := by simpa using hg
      cases i with
      | zero => simp at hf; subst hf; have := (layout_get h hg').1; omega
      | succ i => exact layout_apart h (by simpa using hf) hg' (by omega)
    · cases h

/-! ### Cells of a block -/
def cellsIn (c : Array Value) (o n : Nat) : List Value := (c.toList.drop o).take n
theorem cellsIn_at {w : World} {b : Nat} {c : Array Value} {ty : TypeId} {fz : Nat × Nat} (h : w.heap[b]? = some (.cells c ty fz)) (o n : Nat) : CellsAt w b o (cellsIn c o n) := by
  intro i x hx
  unfold cellsIn at hx
  rw [List.getElem?_take] at hx
  split at hx
  · rw [List.getElem?_drop] at hx
    simp only [World.cell?, h]
    simpa using hx
  · cases hx
theorem cellsIn_length {c : Array Value} {o n : Nat} (h : o + n ≤ c.size) : (cellsIn c o n).length = n := by
  simp [cellsIn]; omega

/-! ### Memory -/
def Ob.rw : Ob → Bool
  | .dead => false
  | .arr _ _ _ _ rw => rw
  | .arrA _ _ _ rw => rw
  | _ => true
def Shape : Ob → Place → Prop
  | .var t _, .var _ t' => t = t'
  | .arr e es nilable _ _, .nil e' => e = e' ∧ nilable = true ∧ es = []
  | .arr e es nilable full _, .arr _ len _ e' full' => e = e' ∧ es.length = len ∧ (nilable = true → len ≠ 0) ∧ (full = true → full' = true)
  | .arrA e as full _, .arr _ len _ e' full' => e = e' ∧ as.length = len ∧ (full = true → full' = true)
  | .map _ _ _, .map _ => True
  | .dead, _ => True
  | _, _ => False
def Backed (P : Program) (w : World) : Place → Prop
  | .nil _ => True
  | .arr b len size e _ => ∃ c, w.heap[b]? = some (.cells c e (0, 0)) ∧ c.size = size ∧ len * P.cellsOf e ≤ size
  | .var b t => ∃ c, w.heap[b]? = some (.cells c t (0, 0)) ∧ c.size = P.cellsOf t
  | .map b => ∃ es cl, w.heap[b]? = some (.map es cl)
def Content (P : Program) (w : World) (Γ : Env) : Ob → Place → Prop
  | .var t a, .var b _ => Fit P Γ t a ∧ ∀ c ty fz, w.heap[b]? = some (.cells c ty fz) → CRel P w Γ a c.toList
  | .arr e es _ _ _, .arr b _ _ _ _ => ∀ c ty fz, w.heap[b]? = some (.cells c ty fz) → ∀ (i : Nat) x, es[i]? = some x → DRel P w Γ.Fz e x (cellsIn c (i * P.cellsOf e) (P.cellsOf e))
  | .arrA e as _ _, .arr b _ _ _ _ => ∀ c ty fz, w.heap[b]? = some (.cells c ty fz) → ∀ (i : Nat) a, as[i]? = some a → Fit P Γ e a ∧ CRel P w Γ a (cellsIn c (i * P.cellsOf e) (P.cellsOf e))
  | .map kt vt es, .map b => ∀ en cl, w.heap[b]? = some (.map en cl) → es.length = en.size ∧
      ∀ (i : Nat) x y, es[i]? = some x → en[i]? = some y → ∃ k n k' v, x = (.int k n, .int k' v) ∧ y.key = .int k n ∧ y.val = .int k' v ∧ P.underlying kt = some (.int k) ∧ P.underlying vt = some (.int k')
  | _, _ => True

/-- 'cv': of which things the content is as it is told. -/
structure Mem (P : Program) (w : World) (Γ : Env) (cv : Nat → Prop) (obs : List Ob) : Prop where
  ob : ∀ o p, Γ.β o = some p → ∃ ob, obs[o]? = some ob ∧ Shape ob p ∧ Backed P w p ∧ (cv o → Content P w Γ ob p)
  inj : ∀ o o' p p' b, Γ.β o = some p → Γ.β o' = some p' → p.block = some b → p'.block = some b → o = o'
  fzlt : ∀ b, Γ.Fz b → b < w.heap.size
/-- What may be written lies in no block that nobody writes any more. -/
def Free (fl : Nat) (Γ : Env) (obs : List Ob) : Prop := ∀ o p b ob, fl ≤ o → Γ.β o = some p → p.block = some b → obs[o]? = some ob → ob.rw = true → ¬ Γ.Fz b

theorem Backed.lt {P : Program} {w : World} {p : Place} (h : Backed P w p) {b : Nat} (hb : p.block = some b) : b < w.heap.size := by
  cases p with
  | nil => simp [Place.block] at hb
  | arr b' len size e full =>
    simp [Place.block] at hb; subst hb
    obtain ⟨c, hc, _⟩ := h
    exact (Array.getElem?_eq_some_iff.1 hc).1
  | var b' t =>
    simp [Place.block] at hb; subst hb
    obtain ⟨c, hc, _⟩ := h
    exact (Array.getElem?_eq_some_iff.1 hc).1
  | map b' =>
    simp [Place.block] at hb; subst hb
    obtain ⟨es, cl, hc⟩ := h
    exact (Array.getElem?_eq_some_iff.1 hc).1

/-- What a step leaves as it was. -/
structure Step (base : Nat) (Γ Γ' : Env) (w w' : World) : Prop where
  os : w'.os = w.os
  tape : w'.tape = w.tape
  output : w'.output = w.output
  size : w.heap.size ≤ w'.heap.size
  fz : ∀ b, Γ.Fz b → Γ'.Fz b
  fzs : ∀ b, Γ.Fz b → w'.heap[b]? = w.heap[b]?
  frame : ∀ b, b < w.heap.size → (∀ o p, Γ.β o = some p → p.block ≠ some b) → w'.heap[b]? = w.heap[b]?
  fznew : ∀ b, Γ'.Fz b → Γ.Fz b ∨ w.heap.size ≤ b ∨ ∃ o p, Γ.β o = some p ∧ p.block = some b
  keep : ∀ o p, o < base → Γ.β o = some p → Γ'.β o = some p
  new : ∀ o p b, Γ'.β o = some p → p.block = some b → w.heap.size ≤ b ∨ ∃ o' p', Γ.β o' = some p' ∧ p'.block = some b

theorem Step.refl (base : Nat) (Γ : Env) (w : World) : Step base Γ Γ w w :=
  ⟨rfl, rfl, rfl, Nat.le_refl _, fun _ h => h, fun _ _ => rfl, fun _ _ _ => rfl, fun _ h => .inl h, fun _ _ _ h => h, fun o p _ h hb => .inr ⟨o, p, h, hb⟩⟩
theorem Step.trans {base : Nat} {Γ Γ' Γ'' : Env} {w w' w'' : World} (h : Step base Γ Γ' w w') (k : Step base Γ' Γ'' w' w'') : Step base Γ Γ'' w w'' where
  os := k.os.trans h.os
  tape := k.tape.trans h.tape
  output := k.output.trans h.output
  size := Nat.le_trans h.size k.size
  fz := fun b hb => k.fz b (h.fz b hb)
  fzs := fun b hb => (k.fzs b (h.fz b hb)).trans (h.fzs b hb)
  frame := fun b hb hn => (k.frame b (Nat.lt_of_lt_of_le hb h.size) (fun o p hp e => by
    rcases h.new o p b hp e with h1 | ⟨o', p', h1, h2⟩
    · omega
    · exact hn o' p' h1 h2)).trans (h.frame b hb hn)
  fznew := fun b hb => by
    rcases k.fznew b hb with h1 | h1 | ⟨o, p, h1, h2⟩
    · exact h.fznew b h1
    · exact .inr (.inl (Nat.le_trans h.size h1))
    · rcases h.new o p b h1 h2 with h3 | h3
      · exact .inr (.inl h3)
      · exact .inr (.inr h3)
  keep := fun o p ho hp => k.keep o p ho (h.keep o p ho hp)
  new := fun o p b hp hb => by
    rcases k.new o p b hp hb with h1 | ⟨o', p', h1, h2⟩
    · exact .inl (Nat.le_trans h.size h1)
    · exact h.new o' p' b h1 h2
theorem Step.mono {base base' : Nat} {Γ Γ' : Env} {w w' : World} (h : Step base Γ Γ' w w') (hb : base' ≤ base) : Step base' Γ Γ' w w' :=
  { h with keep := fun o p ho hp => h.keep o p (Nat.lt_of_lt_of_le ho hb) hp }
theorem Step.ext {base : Nat} {Γ Γ' : Env} {w w' : World} (h : Step base Γ Γ' w w') : Ext (· < base) w w' Γ Γ' := ⟨h.fz, h.fzs, h.keep⟩

end Go.Ev

namespace Go.Ev
open Go

/-- The same thing, but that it may be written no more. -/
def Ob.weak (ob ob' : Ob) : Prop := ob' = ob ∨ (∃ e es n f rw, ob = .arr e es n f rw ∧ ob' = .arr e es n f false) ∨ ∃ e as f rw, ob = .arrA e as f rw ∧ ob' = .arrA e as f false

theorem Mem.lt {P : Program} {w : World} {Γ : Env} {cv : Nat → Prop} {obs : List Ob} (h : Mem P w Γ cv obs) {o : Nat} {p : Place} (hp : Γ.β o = some p) : o < obs.length := by
  obtain ⟨ob, ho, _⟩ := h.ob o p hp
  exact (List.getElem?_eq_some_iff.1 ho).1
theorem Mem.cv {P : Program} {w : World} {Γ : Env} {cv cv' : Nat → Prop} {obs : List Ob} (h : Mem P w Γ cv obs) (hc : ∀ o, o < obs.length → cv' o → cv o) : Mem P w Γ cv' obs :=
  ⟨fun o p hp => by
    obtain ⟨ob, h1, h2, h3, h4⟩ := h.ob o p hp
    exact ⟨ob, h1, h2, h3, fun hh => h4 (hc o (h.lt hp) hh)⟩, h.inj, h.fzlt⟩

/-! ### Content lasts -/
theorem Backed.same {P : Program} {w w' : World} {p : Place} (h : Backed P w p) (hb : ∀ b, p.block = some b → w'.heap[b]? = w.heap[b]?) : Backed P w' p := by
  cases p with
  | nil => trivial
  | arr b len size e full => obtain ⟨c, h1, h2⟩ := h; exact ⟨c, (hb b rfl).trans h1, h2⟩
  | var b t => obtain ⟨c, h1, h2⟩ := h; exact ⟨c, (hb b rfl).trans h1, h2⟩
  | map b => obtain ⟨es, cl, h1⟩ := h; exact ⟨es, cl, (hb b rfl).trans h1⟩
theorem Content.same {P : Program} {w w' : World} {Γ Γ' : Env} {ob : Ob} {p : Place} (h : Content P w Γ ob p) (hb : ∀ b, p.block = some b → w'.heap[b]? = w.heap[b]?)
    (e : Ext (fun o => ob.names o = true) w w' Γ Γ') : Content P w' Γ' ob p := by
  cases ob with
  | dead => trivial
  | var t a =>
    cases p with
    | var b t' =>
      refine ⟨h.1.ext (fun o ho => ho) e, ?_⟩
      intro c ty fz hc
      exact (h.2 c ty fz ((hb b rfl).symm.trans hc)).ext (fun o ho => ho) e
    | _ => trivial
  | arr t es n f rw =>
    cases p with
    | arr b len size e' full =>
      intro c ty fz hc i x hx
      exact (h c ty fz ((hb b rfl).symm.trans hc) i x hx).mono e.fz e.fzs
    | _ => trivial
  | arrA t as f rw =>
    cases p with
    | arr b len size e' full =>
      intro c ty fz hc i x hx
      exact ⟨(h c ty fz ((hb b rfl).symm.trans hc) i x hx).1.ext (fun o ho => names_getElem hx ho) e, (h c ty fz ((hb b rfl).symm.trans hc) i x hx).2.ext (fun o ho => names_getElem hx ho) e⟩
    | _ => trivial
  | map k v es =>
    cases p with
    | map b =>
      intro en cl hc
      exact h en cl ((hb b rfl).symm.trans hc)
    | _ => trivial
theorem Shape.weak {ob ob' : Ob} {p : Place} (h : Shape ob p) (hw : ob.weak ob') : Shape ob' p := by
  rcases hw with rfl | ⟨e, es, n, f, rw, rfl, rfl⟩ | ⟨e, as, f, rw, rfl, rfl⟩
  · exact h
  · cases p <;> exact h
  · cases p <;> exact h
theorem Content.weak {P : Program} {w : World} {Γ : Env} {ob ob' : Ob} {p : Place} (h : Content P w Γ ob p) (hw : ob.weak ob') : Content P w Γ ob' p := by
  rcases hw with rfl | ⟨e, es, n, f, rw, rfl, rfl⟩ | ⟨e, as, f, rw, rfl, rfl⟩
  · exact h
  · cases p <;> exact h
  · cases p <;> exact h
theorem Shape.strong {ob ob' : Ob} {p : Place} (h : Shape ob' p) (hw : ob.weak ob') : Shape ob p := by
  rcases hw with rfl | ⟨e, es, n, f, rw, rfl, rfl⟩ | ⟨e, as, f, rw, rfl, rfl⟩
  · exact h
  · cases p <;> exact h
  · cases p <;> exact h
theorem Content.strong {P : Program} {w : World} {Γ : Env} {ob ob' : Ob} {p : Place} (h : Content P w Γ ob' p) (hw : ob.weak ob') : Content P w Γ ob p := by
  rcases hw with rfl | ⟨e, es, n, f, rw, rfl, rfl⟩ | ⟨e, as, f, rw, rfl, rfl⟩
  · exact h
  · cases p <;> exact h
  · cases p <;> exact h
theorem Ob.weak.names {ob ob' : Ob} (hw : ob.weak ob') (o : Nat) : ob'.names o = ob.names o := by
  rcases hw with rfl | ⟨e, es, n, f, rw, rfl, rfl⟩ | ⟨e, as, f, rw, rfl, rfl⟩ <;> rfl
theorem Ob.weak.rw {ob ob' : Ob} (hw : ob.weak ob') (h : ob'.rw = true) : ob.rw = true := by
  rcases hw with rfl | ⟨e, es, n, f, rw, rfl, rfl⟩ | ⟨e, as, f, rw, rfl, rfl⟩
  · exact h
  · cases h
  · cases h

/-! ### A new block -/
theorem size_alloc (w : World) (o : Obj) : (w.alloc o).heap.size = w.heap.size + 1 := by show (w.heap.push o).size = _; simp
theorem alloc_old {w : World} {o : Obj} {b : Nat} (h : b < w.heap.size) : (w.alloc o).heap[b]? = w.heap[b]? := heap_alloc_old w o b h
def Env.put (Γ : Env) (o : Nat) (p : Place) : Env := { Γ with β := fun q => if q = o then some p else Γ.β q }
theorem Env.put_at (Γ : Env) (o : Nat) (p : Place) : (Γ.put o p).β o = some p := by simp [Env.put]
theorem Env.put_ne (Γ : Env) {o q : Nat} (p : Place) (h : q ≠ o) : (Γ.put o p).β q = Γ.β q := by simp [Env.put, h]


/-- One list of things says what another one says, but that some may be written no more, and of more things. -/
def Wk (a b : List Ob) : Prop := ∀ (o : Nat) ob, a[o]? = some ob → ∃ ob', b[o]? = some ob' ∧ ob.weak ob'
theorem Ob.weak.refl (ob : Ob) : ob.weak ob := .inl rfl
theorem Ob.weak.trans {a b c : Ob} (h : a.weak b) (k : b.weak c) : a.weak c := by
  rcases h with rfl | ⟨e, es, n, f, rw, rfl, rfl⟩ | ⟨e, as, f, rw, rfl, rfl⟩
  · exact k
  · rcases k with rfl | ⟨e', es', n', f', rw', h1, h2⟩ | ⟨e', as', f', rw', h1, h2⟩
    · exact .inr (.inl ⟨e, es, n, f, rw, rfl, rfl⟩)
    · cases h1; exact .inr (.inl ⟨_, _, _, _, rw, rfl, h2⟩)
    · cases h1
  · rcases k with rfl | ⟨e', es', n', f', rw', h1, h2⟩ | ⟨e', as', f', rw', h1, h2⟩
    · exact .inr (.inr ⟨e, as, f, rw, rfl, rfl⟩)
    · cases h1
    · cases h1; exact .inr (.inr ⟨_, _, _, rw, rfl, h2⟩)
theorem Wk.refl (a : List Ob) : Wk a a := fun _ ob h => ⟨ob, h, .refl ob⟩
theorem Wk.trans {a b c : List Ob} (h : Wk a b) (k : Wk b c) : Wk a c := fun o ob ho => by
  obtain ⟨ob1, h1, w1⟩ := h o ob ho
  obtain ⟨ob2, h2, w2⟩ := k o ob1 h1
  exact ⟨ob2, h2, w1.trans w2⟩
theorem Wk.append (a b : List Ob) : Wk a (a ++ b) := fun o ob ho => ⟨ob, by rw [List.getElem?_append_left (List.getElem?_eq_some_iff.1 ho).1]; exact ho, .refl ob⟩
def Pre (a b : List Ob) : Prop := ∃ l, b = a ++ l
theorem Pre.refl (a : List Ob) : Pre a a := ⟨[], by simp⟩
theorem Pre.append (a b : List Ob) : Pre a (a ++ b) := ⟨b, rfl⟩
theorem Pre.trans {a b c : List Ob} (h : Pre a b) (k : Pre b c) : Pre a c := by
  obtain ⟨l, rfl⟩ := h
  obtain ⟨m, rfl⟩ := k
  exact ⟨l ++ m, by simp⟩
theorem Pre.wk {a b : List Ob} (h : Pre a b) : Wk a b := by
  obtain ⟨l, rfl⟩ := h
  exact Wk.append _ _
theorem Wk.le {a b : List Ob} (h : Wk a b) : a.length ≤ b.length := by
  rcases Nat.eq_zero_or_pos a.length with h0 | h0
  · omega
  · obtain ⟨ob, h1, _⟩ := h (a.length - 1) _ (List.getElem?_eq_getElem (by omega))
    have := (List.getElem?_eq_some_iff.1 h1).1
    omega
theorem Mem.wk {P : Program} {w : World} {Γ : Env} {cv : Nat → Prop} {a b : List Ob} (h : Mem P w Γ cv a) (k : Wk a b) : Mem P w Γ cv b :=
  ⟨fun o p hp => by
    obtain ⟨ob, h1, h2, h3, h4⟩ := h.ob o p hp
    obtain ⟨ob', h5, h6⟩ := k o ob h1
    exact ⟨ob', h5, h2.weak h6, h3, fun hc => (h4 hc).weak h6⟩, h.inj, h.fzlt⟩
theorem Mem.at {P : Program} {w : World} {Γ : Env} {cv : Nat → Prop} {a b : List Ob} (h : Mem P w Γ cv b) (k : Wk a b) {o : Nat} {p : Place} {ob : Ob} (hp : Γ.β o = some p) (ho : a[o]? = some ob) :
    Shape ob p ∧ Backed P w p ∧ (cv o → Content P w Γ ob p) := by
  obtain ⟨ob', h1, h2⟩ := k o ob ho
  obtain ⟨ob'', h3, h4, h5, h6⟩ := h.ob o p hp
  rw [h1] at h3; cases h3
  exact ⟨h4.strong h2, h5, fun hc => (h6 hc).strong h2⟩
theorem Free.wk {fl : Nat} {Γ : Env} {a b : List Ob} (h : Free fl Γ a) (k : Wk a b) (hd : ∀ o, Γ.β o ≠ none → o < a.length) : Free fl Γ b := fun o p bl ob ho hp hb hob hrw => by
  have hlt := hd o (by rw [hp]; simp)
  obtain ⟨ob', h1, h2⟩ := k o _ (List.getElem?_eq_getElem hlt)
  rw [hob] at h1; cases h1
  exact h o p bl _ ho hp hb (List.getElem?_eq_getElem hlt) (h2.rw hrw)

/-- New things, new blocks; what was there is as it was. -/
structure Grow (P : Program) (Γ Γ' : Env) (w w' : World) (cv : Nat → Prop) (obs : List Ob) (lo hi : Nat) : Prop where
  step : ∀ base, Step base Γ Γ' w w'
  mem : Mem P w' Γ' cv obs
  free : ∀ fl, Free fl Γ obs → Free fl Γ' obs
  keep : ∀ o p, Γ.β o = some p → Γ'.β o = some p
  dom : ∀ o, Γ'.β o ≠ none → Γ.β o ≠ none ∨ (lo ≤ o ∧ o < hi)
  old : ∀ b, b < w.heap.size → w'.heap[b]? = w.heap[b]?

theorem Grow.refl {P : Program} {cv : Nat → Prop} {Γ : Env} {w : World} {obs : List Ob} {lo hi : Nat} (h : Mem P w Γ cv obs) : Grow P Γ Γ w w cv obs lo hi :=
  ⟨fun _ => Step.refl _ _ _, h, fun _ h => h, fun _ _ h => h, fun _ h => .inl h, fun _ _ => rfl⟩
theorem Grow.ext {P : Program} {cv : Nat → Prop} {Γ Γ' : Env} {w w' : World} {obs : List Ob} {lo hi : Nat} (h : Grow P Γ Γ' w w' cv obs lo hi) : Ext (fun _ => True) w w' Γ Γ' :=
  ⟨(h.step 0).fz, (h.step 0).fzs, fun o p _ hp => h.keep o p hp⟩

theorem Step.alloc {base : Nat} {Γ : Env} {w : World} {cv : Nat → Prop} {P : Program} {obs : List Ob} (h : Mem P w Γ cv obs) (n : Nat) (hn : Γ.β n = none) (o : Obj) (p : Place) (hp : ∀ b, p.block = some b → b = w.heap.size) :
    Step base Γ (Γ.put n p) w (w.alloc o) where
  os := rfl
  tape := rfl
  output := rfl
  size := by rw [size_alloc]; omega
  fz := fun _ h => h
  fzs := fun b hb => alloc_old (h.fzlt b hb)
  frame := fun b hb _ => alloc_old hb
  fznew := fun b hb => .inl hb
  keep := fun q r hq hr => by rw [Env.put_ne _ _ (by rintro rfl; rw [hn] at hr; cases hr)]; exact hr
  new := fun q r b hr hb => by
    by_cases e : q = n
    · subst e
      rw [Env.put_at] at hr; cases hr
      exact .inl (by rw [hp b hb]; exact Nat.le_refl _)
    · rw [Env.put_ne _ _ e] at hr
      exact .inr ⟨q, r, hr, hb⟩
theorem Grow.alloc {P : Program} {cv : Nat → Prop} {Γ : Env} {w : World} {obs : List Ob} (h : Mem P w Γ cv obs) (n : Nat) (hn : Γ.β n = none) (o : Obj) (ob : Ob) (p : Place) (hob : obs[n]? = some ob) (hp : ∀ b, p.block = some b → b = w.heap.size)
    (hs : Shape ob p) (hb : Backed P (w.alloc o) p) (hc : Content P (w.alloc o) (Γ.put n p) ob p) : Grow P Γ (Γ.put n p) w (w.alloc o) cv obs n (n + 1) where
  old := fun b hb => alloc_old hb
  step := fun _ => Step.alloc h n hn o p hp
  mem := by
    refine ⟨fun q r hr => ?_, fun q q' r r' b hr hr' hb hb' => ?_, fun b hb => ?_⟩
    · by_cases e : q = n
      · subst e
        rw [Env.put_at] at hr; cases hr
        exact ⟨ob, hob, hs, hb, fun _ => hc⟩
      · rw [Env.put_ne _ _ e] at hr
        obtain ⟨ob', h1, h2, h3, h4⟩ := h.ob q r hr
        have hbl : ∀ b, r.block = some b → (w.alloc o).heap[b]? = w.heap[b]? := fun b hb => alloc_old (h3.lt hb)
        refine ⟨ob', h1, h2, h3.same hbl, fun hcv => ?_⟩
        refine (h4 hcv).same hbl ⟨fun _ h => h, fun b hb => alloc_old (h.fzlt b hb), fun x y _ hy => ?_⟩
        rw [Env.put_ne _ _ (by rintro rfl; rw [hn] at hy; cases hy)]; exact hy
    · by_cases e : q = n <;> by_cases e' : q' = n
      · omega
      · subst e
        rw [Env.put_at] at hr; cases hr
        rw [Env.put_ne _ _ e'] at hr'
        obtain ⟨_, _, _, h3, _⟩ := h.ob q' r' hr'
        have := h3.lt hb'
        have := hp b hb
        omega
      · subst e'
        rw [Env.put_at] at hr'; cases hr'
        rw [Env.put_ne _ _ e] at hr
        obtain ⟨_, _, _, h3, _⟩ := h.ob q r hr
        have := h3.lt hb
        have := hp b hb'
        omega
      · rw [Env.put_ne _ _ e] at hr
        rw [Env.put_ne _ _ e'] at hr'
        exact h.inj q q' r r' b hr hr' hb hb'
    · have := h.fzlt b hb
      rw [size_alloc]; omega
  free := fun fl hf q r b ob' hq hr hb hob' hrw => by
    by_cases e : q = n
    · subst e
      rw [Env.put_at] at hr; cases hr
      intro hfz
      have := h.fzlt b hfz
      have := hp b hb
      omega
    · rw [Env.put_ne _ _ e] at hr
      exact hf q r b ob' hq hr hb hob' hrw
  keep := fun q r hr => by rw [Env.put_ne _ _ (by rintro rfl; rw [hn] at hr; cases hr)]; exact hr
  dom := fun q hq => by
    by_cases e : q = n
    · exact .inr (by omega)
    · rw [Env.put_ne _ _ e] at hq; exact .inl hq
/-- A thing without a block. -/
theorem Grow.nil {P : Program} {cv : Nat → Prop} {Γ : Env} {w : World} {obs : List Ob} (h : Mem P w Γ cv obs) (n : Nat) (hn : Γ.β n = none) (e : TypeId) (f rw : Bool) (hob : obs[n]? = some (.arr e [] true f rw)) :
    Grow P Γ (Γ.put n (.nil e)) w w cv obs n (n + 1) where
  old := fun _ _ => rfl
  step := fun base => { Step.refl base Γ w with
    fz := fun _ h => h, fznew := fun b hb => .inl hb
    keep := fun q r hq hr => by rw [Env.put_ne _ _ (by rintro rfl; rw [hn] at hr; cases hr)]; exact hr
    new := fun q r b hr hb => by
      by_cases e : q = n
      · subst e
        rw [Env.put_at] at hr; cases hr
        simp [Place.block] at hb
      · rw [Env.put_ne _ _ e] at hr
        exact .inr ⟨q, r, hr, hb⟩ }
  mem := by
    refine ⟨fun q r hr => ?_, fun q q' r r' b hr hr' hb hb' => ?_, h.fzlt⟩
    · by_cases e : q = n
      · subst e
        rw [Env.put_at] at hr; cases hr
        exact ⟨_, hob, ⟨rfl, rfl, rfl⟩, trivial, fun _ => trivial⟩
      · rw [Env.put_ne _ _ e] at hr
        obtain ⟨ob', h1, h2, h3, h4⟩ := h.ob q r hr
        refine ⟨ob', h1, h2, h3, fun hcv => ?_⟩
        refine (h4 hcv).same (fun _ _ => rfl) ⟨fun _ h => h, fun b hb => rfl, fun x y _ hy => ?_⟩
        rw [Env.put_ne _ _ (by rintro rfl; rw [hn] at hy; cases hy)]; exact hy
    · by_cases e : q = n <;> by_cases e' : q' = n
      · omega
      · subst e
        rw [Env.put_at] at hr; cases hr
        simp [Place.block] at hb
      · subst e'
        rw [Env.put_at] at hr'; cases hr'
        simp [Place.block] at hb'
      · rw [Env.put_ne _ _ e] at hr
        rw [Env.put_ne _ _ e'] at hr'
        exact h.inj q q' r r' b hr hr' hb hb'
  free := fun fl hf q r b ob' hq hr hb hob' hrw => by
    by_cases e : q = n
    · subst e
      rw [Env.put_at] at hr; cases hr
      simp [Place.block] at hb
    · rw [Env.put_ne _ _ e] at hr
      exact hf q r b ob' hq hr hb hob' hrw
  keep := fun q r hr => by rw [Env.put_ne _ _ (by rintro rfl; rw [hn] at hr; cases hr)]; exact hr
  dom := fun q hq => by
    by_cases e : q = n
    · exact .inr (by omega)
    · rw [Env.put_ne _ _ e] at hq; exact .inl hq

end Go.Ev
