/- Proved here: RulesTurns answers true and leaves its arguments as they were. Condition: the arguments hold together at most 1048576 values and letters (the given statement RulesTurnsUptoSaid). The rows of RulesTurns and RulesOff out of what their residuals tell. -/
import Derived.Test.YtakjjijmcnhpoaaSB
import Derived.Test.YtakjjijmcnhpoaaEvM
import Derived.Test.YtakjjijmcnhpoaaRows
import Derived.WalkKit
import Derived.ProofKit
import Derived.OpenShut
import Derived.JoinedCond
import Derived.Carry
import Derived.Test.YtakjjijmcnhpoaaPB
namespace Go.Proofs.Ytakjjijmcnhpoaa
open Go Go.Ev Go.ChangeShapes Go.WideShapes Go.ChangeAt Go.RowKit
set_option linter.unusedVariables false

abbrev N0 : Nat := 33554432
/-- What is to be shown of the residuals. -/
def PlainTurns : Prop := ∀ p c : D, Ev.Can Try.prog 27 p → Ev.Can Try.prog 33 c → sz p + sz c ≤ 1048576 → Ev.S.RulesTurns_ N0 p c = some (.bool true)
def PlainOff : Prop := ∀ p c : D, Ev.Can Try.prog 27 p → Ev.Can Try.prog 33 c → sz p + sz c ≤ 1048576 → Ev.S.RulesOff_ N0 p c = some (.bool true)

theorem own : ownKnob Try.prog.godebug = none := by kernel_rfl
theorem laidOut : laidOutB Try.prog = true := by kernel_rfl
noncomputable def types : List TypeId := reachT Try.prog 12 [27, 33]
theorem closed_types : closedT Try.prog types = true := by kernel_rfl
theorem in27 : 27 ∈ types := List.contains_iff_mem.1 (by kernel_rfl)
theorem in33 : 33 ∈ types := List.contains_iff_mem.1 (by kernel_rfl)
theorem under27 : ∃ fs, Try.prog.underlying 27 = some (.struct fs) := ⟨_, Try.underlying27⟩
theorem under33 : ∃ fs, Try.prog.underlying 33 = some (.struct fs) := ⟨_, Try.underlying33⟩

mutual
theorem bulk_le {H : Type} : ∀ d : DataW H, bulk d ≤ Rows.uptoBulk d
  | .lit (.string b) => by simp [bulk, Rows.uptoBulk]
  | .lit (.bool _) => by simp [bulk, Rows.uptoBulk]
  | .lit (.int _ _) => by simp [bulk, Rows.uptoBulk]
  | .lit (.float _ _) => by simp [bulk, Rows.uptoBulk]
  | .lit .nil => by simp [bulk, Rows.uptoBulk]
  | .nil => by simp [bulk, Rows.uptoBulk]
  | .ptr d => by simp only [bulk, Rows.uptoBulk]; have := bulk_le d; omega
  | .slice a b => by simp only [bulk, Rows.uptoBulk]; have := bulkL_le a; have := bulkL_le b; omega
  | .agg a => by simp only [bulk, Rows.uptoBulk]; have := bulkL_le a; omega
  | .iface _ d => by simp only [bulk, Rows.uptoBulk]; have := bulk_le d; omega
  | .map _ => by simp only [bulk, Rows.uptoBulk]; omega
  | .held _ => by simp [bulk, Rows.uptoBulk]
theorem bulkL_le {H : Type} : ∀ l : List (DataW H), bulkL l ≤ Rows.uptoBulkAll l
  | [] => Nat.le_refl _
  | d :: l => by simp only [bulkL, Rows.uptoBulkAll]; have := bulk_le d; have := bulkL_le l; omega
end

theorem under4 : Try.prog.underlying 4 = some .bool := by kernel_rfl
theorem bool_res {W : World} {Fz : Nat → Prop} {lo : Nat} {v : Value} (h : ResAll Try.prog W Fz lo [.dat 4] (.bool true) v) : v = .bool true := by
  have h : Ev.ArgRel Try.prog W Fz 4 (.bool true) v := h
  obtain ⟨h1, h2⟩ := h
  have hty : ty Try.prog 4 = .bool := by kernel_rfl
  have hu := (ty_bool hty).2
  have hm : mk Try.prog 4 (.bool true) = .bool true := by simp [mk, hty, D.b]
  rw [hm] at h2
  have hc := h2.cells rfl
  rw [hc] at h1
  cases h1 with
  | bool ht hb => simp [D.b] at hb; rw [hb]
  | int ht => rw [hu] at ht; cases ht
  | str ht => rw [hu] at ht; cases ht
  | st ht => rw [hu] at ht; cases ht
  | nil ht => rw [hu] at ht; cases ht
  | slE ht => rw [hu] at ht; cases ht
  | sl ht => rw [hu] at ht; cases ht

set_option maxRecDepth 100000 in
theorem contract_of {f : FuncId} {fn : Func} {spec : ChangeSpec} (hpar : fn.params.toList = [27, 33]) (hresT : fn.resultTypes = #[4]) (hvars : spec.vars = []) (hfnres : ∀ (H : Type) (d1 d2 : DataW H), spec.fn H [d1, d2] = { results := [.lit (.bool true)], args := [d1, d2] })
    {run : D → D → Option D} (hC : Contract Try.prog { f := f, ps := [27, 33], rs := [.dat 4], run := fun ds => match ds with | [a, b] => run a b | _ => none }) (hP : ∀ p c : D, Ev.Can Try.prog 27 p → Ev.Can Try.prog 33 c → sz p + sz c ≤ 1048576 → run p c = some (.bool true))
    (H : Type) (enc : TypeId × Value → H) (W : World) (base : Nat) (args : Array Value) (ds gs : List (DataW H)) (before : List MemPlace)
    (hval : ∀ (j : Nat) t v, fn.params[j]? = some t → args[j]? = some v → Value.okWide Try.prog W .any base t v)
    (hW : DataW.Whole enc Try.prog fn.params.toList spec.vars false W args.toList ds gs before) (hk : Rows.uptoSmall H (ds ++ gs) = true) :
    Calls Try.prog f args W fun e W' => ∃ v, e = .returned v ∧ spec.post enc Try.prog fn false true false false W args v W' := by
  have hW' := hW
  obtain ⟨p, q, hA, hV, rfl, hfz, hnd⟩ := hW
  rw [hpar] at hA
  rw [hvars] at hV
  obtain ⟨v0, vs0, d0, ds0, p0, q0, hargs, rfl, rfl, h0, r0⟩ := trodAll_cons hA
  obtain ⟨v1, vs1, d1, ds1, p1, q1, hargs1, rfl, rfl, h1, r1⟩ := trodAll_cons r0
  obtain ⟨rfl, rfl, rfl⟩ := trodAll_nil r1
  have hargs2 : args = #[v0, v1] := by cases args; simp_all
  subst hargs2
  obtain ⟨rfl, rfl⟩ := trodVars_none hV
  have hpar0 : fn.params[0]? = some 27 := by rw [← Array.getElem?_toList, hpar]; rfl
  have hpar1 : fn.params[1]? = some 33 := by rw [← Array.getElem?_toList, hpar]; rfl
  obtain ⟨fs0, hu0⟩ := under27
  obtain ⟨fs1, hu1⟩ := under33
  obtain ⟨a, a1, a2, a3⟩ := arg_struct Ev.S.T closed_types in27 hu0 h0 (hval 0 27 v0 hpar0 rfl)
  obtain ⟨c, c1, c2, c3⟩ := arg_struct Ev.S.T closed_types in33 hu1 h1 (hval 1 33 v1 hpar1 rfl)
  have hb : Rows.uptoBulk d0 + Rows.uptoBulk d1 ≤ 1048576 := by
    have := of_decide_eq_true (p := Rows.uptoBulkAll ([d0, d1] ++ []) ≤ 1048576) hk
    simp only [List.append_nil, Rows.uptoBulkAll] at this
    omega
  have hb0 := bulk_le d0
  have hb1 := bulk_le d1
  have hrun := hP a c a2 c2 (by omega)
  refine (hC.call rfl (· < W.heap.size) W #[v0, v1] [a, c] (.bool true) (fun _ h => h) ⟨rfl, rfl, fun i t d v ht hd hv => ?_⟩ hrun).mono fun e W' he => ?_
  · match i, ht, hd, hv with
    | 0, ht, hd, hv => simp at ht hd hv; subst ht; subst hd; subst hv; exact a1
    | 1, ht, hd, hv => simp at ht hd hv; subst ht; subst hd; subst hv; exact c1
    | i + 2, ht, _, _ => simp at ht
  · obtain ⟨v, rfl, hq, Fz', _, _, hres⟩ := he
    have hv := bool_res hres
    subst hv
    have hbel : Below W.heap.size W W' := ⟨hq.os, hq.tape, hq.output, hq.size, hq.same⟩
    have hlt0 : ∀ x ∈ p0, x.block < W.heap.size := fun x hx => by simpa using hW'.lt x (by simp [hx])
    have hlt1 : ∀ x ∈ p1, x.block < W.heap.size := fun x hx => by simpa using hW'.lt x (by simp [hx])
    have hlt27 : 27 < Try.prog.types.size := by have := List.all_eq_true.1 closed_types 27 in27; simp only [Bool.and_eq_true, decide_eq_true_eq] at this; exact this.1
    have hlt33 : 33 < Try.prog.types.size := by have := List.all_eq_true.1 closed_types 33 in33; simp only [Bool.and_eq_true, decide_eq_true_eq] at this; exact this.1
    have hmem : ∀ x, x ∈ p0 ++ (p1 ++ []) → x.block < W.heap.size := fun x hx => by
      rcases List.mem_append.1 hx with h | h
      · exact hlt0 x h
      · exact hlt1 x (by simpa using h)
    have hres1 : ∀ (b : Nat) (sp : Nat → Bool) (hd : Bool), DataW.TrodAll enc Try.prog W' b sp hd fn.resultTypes.toList ((Value.bool true).resultList fn.resultTypes.size) (spec.fn H ([d0, d1] ++ [])).results [] := fun b sp hd => by
      rw [hresT, List.append_nil, hfnres]
      exact trodAll_cons_mk (shut_bool under4 _) trodAll_mk0
    have hargs1 : ∀ sp : Nat → Bool, (∀ x, x ∈ p0 ++ (p1 ++ []) → sp x.block = true) → DataW.TrodAll enc Try.prog W' 0 sp true fn.params.toList #[v0, v1].toList (spec.fn H ([d0, d1] ++ [])).args (p0 ++ (p1 ++ [])) := fun sp hsp => by
      rw [hpar, List.append_nil, hfnres]
      exact trodAll_cons_mk (WideElems.Trod_stays laidOut (by kernel_rfl) hlt27 h0 (fun x hx => hbel.same (hlt0 x hx)) (fun x hx => hsp x (by simp [hx])))
        (trodAll_cons_mk (WideElems.Trod_stays laidOut (by kernel_rfl) hlt33 h1 (fun x hx => hbel.same (hlt1 x hx)) (fun x hx => hsp x (by simp [hx]))) trodAll_mk0)
    have hvars1 : ∀ sp : Nat → Bool, DataW.TrodVars enc Try.prog W' sp spec.vars (spec.fn H ([d0, d1] ++ [])).vars [] := fun sp => by
      rw [hvars, List.append_nil, hfnres]; rfl
    have hkept : W.keptBut W' (fun x => x ∈ p0 ++ (p1 ++ []) ++ [] ∧ (x ∈ [] ∨ x ∈ p0 ++ (p1 ++ []) ∨ x ∈ [])) := hbel.frame _
    refine ⟨_, rfl, [d0, d1], [], p0 ++ (p1 ++ []) ++ [], [], p0 ++ (p1 ++ []), [], hW', hres1 _ _ _, hargs1 _ (fun x hx => by simpa using hmem x hx), hvars1 _, ?_, fun _ => ?_⟩
    · exact World.keptBut_mono (fun x hx => ⟨hx, by simpa using hx⟩) (hbel.frame (· ∈ p0 ++ (p1 ++ []) ++ []))
    · refine ⟨ok_one hresT rfl (okWide_bool_mk under4 _), _, _, p0 ++ (p1 ++ []), ⟨p0 ++ (p1 ++ []), [], trodAll_append (hargs1 _ (fun _ _ => rfl)) (hres1 _ _ _), hvars1 _, by simp, fun b off hx => ?_, fun ha => by cases ha⟩, fun x hx _ => by simpa using hx⟩
      rw [hbel.frozen (hmem _ hx)]
      exact hfz b off (by simpa using hx)

def zeroArgs : Array Value := #[.agg #[.int .i64 0, .slice none 0 0, .int .i64 0, .slice none 0 0, .bool false, .slice none 0 0], .agg #[.slice none 0 0, .slice none 0 0, .slice none 0 0, .slice none 0 0, .bool false, .slice none 0 0, .int .i64 0]]
def zeroRead (H : Type) : List (DataW H) := [.agg [.lit (.int .i64 0), .nil, .lit (.int .i64 0), .nil, .lit (.bool false), .nil], .agg [.nil, .nil, .nil, .nil, .lit (.bool false), .nil, .lit (.int .i64 0)]]

set_option maxRecDepth 100000 in
theorem liftedTurns (hp : PlainTurns) (os : Os) (started : os.Started) (H : Type) (enc : TypeId × Value → H) (F : Stop.Interp) :
    ReturnsInHanded {} Try.checked os 3 .any ((Rows.OpenSpec.upto Rows.rulesTurnsSpec).pre6 enc Try.prog Try.f3 Rows.rulesTurnsUptoRow.domain false) (((Rows.OpenSpec.upto Rows.rulesTurnsSpec).at F).post enc Try.prog Try.f3 false true false false) := by
  refine returnsInHanded_of_cond (C := Try.checked) (s := Rows.OpenSpec.upto Rows.rulesTurnsSpec) (k := Rows.uptoSmall) rfl own started (by kernel_rfl) Try.func3
    (OpenSpec.witness (enc := enc) (C := Try.checked) (s := Rows.OpenSpec.upto Rows.rulesTurnsSpec) (k := Rows.uptoSmall) rfl false ⟨#[], zeroArgs, []⟩ 8 (by kernel_rfl) (by kernel_rfl) (by kernel_rfl)
      (x := (zeroRead H, [], [])) (by kernel_rfl) rfl (by kernel_rfl)) ?_
  intro W base args ds gs before hval hW _ hk _
  exact contract_of (f := 3) (fn := Try.f3) (spec := Rows.rulesTurnsSpec) rfl rfl rfl (fun _ _ _ => rfl) (Ev.S.RulesTurns_cl N0) hp H enc W base args ds gs before hval hW hk

theorem overTurns (hp : PlainTurns) : Rows.RulesTurnsUptoSaid :=
  OpenClaim.holds_of_cond 3 Try.f3 rfl rfl rfl rfl rfl rfl rfl ⟨rfl, rfl, rfl, rfl, rfl⟩ rfl rfl rfl rfl rfl (by kernel_rfl) Try.func3 (by kernel_rfl)
    (of_decide_eq_true (by kernel_rfl)) (by unfold Func.isWrapper; first | (rw [if_pos (by decide +kernel)]; kernel_rfl) | (rw [if_neg (by decide +kernel)]; exact ⟨rfl, rfl⟩))
    (fun os started H enc _ F => liftedTurns hp os started H enc F)

set_option maxRecDepth 100000 in
theorem liftedOff (hp : PlainOff) (os : Os) (started : os.Started) (H : Type) (enc : TypeId × Value → H) (F : Stop.Interp) :
    ReturnsInHanded {} Try.checked os 4 .any ((Rows.OpenSpec.upto Rows.rulesOffSpec).pre6 enc Try.prog Try.f4 Rows.rulesOffUptoRow.domain false) (((Rows.OpenSpec.upto Rows.rulesOffSpec).at F).post enc Try.prog Try.f4 false true false false) := by
  refine returnsInHanded_of_cond (C := Try.checked) (s := Rows.OpenSpec.upto Rows.rulesOffSpec) (k := Rows.uptoSmall) rfl own started (by kernel_rfl) Try.func4
    (OpenSpec.witness (enc := enc) (C := Try.checked) (s := Rows.OpenSpec.upto Rows.rulesOffSpec) (k := Rows.uptoSmall) rfl false ⟨#[], zeroArgs, []⟩ 8 (by kernel_rfl) (by kernel_rfl) (by kernel_rfl)
      (x := (zeroRead H, [], [])) (by kernel_rfl) rfl (by kernel_rfl)) ?_
  intro W base args ds gs before hval hW _ hk _
  exact contract_of (f := 4) (fn := Try.f4) (spec := Rows.rulesOffSpec) rfl rfl rfl (fun _ _ _ => rfl) (Ev.S.RulesOff_cl N0) hp H enc W base args ds gs before hval hW hk

theorem overOff (hp : PlainOff) : Rows.RulesOffUptoSaid :=
  OpenClaim.holds_of_cond 4 Try.f4 rfl rfl rfl rfl rfl rfl rfl ⟨rfl, rfl, rfl, rfl, rfl⟩ rfl rfl rfl rfl rfl (by kernel_rfl) Try.func4 (by kernel_rfl)
    (of_decide_eq_true (by kernel_rfl)) (by unfold Func.isWrapper; first | (rw [if_pos (by decide +kernel)]; kernel_rfl) | (rw [if_neg (by decide +kernel)]; exact ⟨rfl, rfl⟩))
    (fun os started H enc _ F => liftedOff hp os started H enc F)
end Go.Proofs.Ytakjjijmcnhpoaa

namespace Go.Proofs.Ytakjjijmcnhpoaa
open Go Go.Ev
set_option linter.unusedVariables false

theorem under23 : Try.prog.underlying 23 = some (.slice 27) := by kernel_rfl

/-- What a plan's type tells of its form. -/
theorem can_form {t : TypeId} {d : D} (h : Ev.Can Try.prog t d) : (t = 27 → Ev.S.Pl d) ∧ (t = 23 → ∃ nl ks, d = .sl nl ks ∧ (nl = true → ks = []) ∧ ∀ k ∈ ks, Ev.S.Pl k) := by
  induction h with
  | int h => exact ⟨fun e => (by subst e; rw [Try.underlying27] at h; cases h), fun e => (by subst e; rw [under23] at h; cases h)⟩
  | bool h => exact ⟨fun e => (by subst e; rw [Try.underlying27] at h; cases h), fun e => (by subst e; rw [under23] at h; cases h)⟩
  | str h => exact ⟨fun e => (by subst e; rw [Try.underlying27] at h; cases h), fun e => (by subst e; rw [under23] at h; cases h)⟩
  | st h hl hx ih =>
    rename_i t fs l
    refine ⟨fun e => ?_, fun e => (by subst e; rw [under23] at h; cases h)⟩
    subst e
    rw [Try.underlying27] at h
    cases h
    match l, hl, ih with
    | [a, b, c, d, e, f], _, ih =>
      obtain ⟨nl, ks, rfl, h1, h2⟩ := (ih 1 _ b rfl rfl).2 rfl
      exact .mk h1 h2
  | sl h hb hx ih =>
    refine ⟨fun e => (by subst e; rw [Try.underlying27] at h; cases h), fun e => ?_⟩
    subst e
    rw [under23] at h
    cases h
    exact ⟨_, _, rfl, hb, fun k hk => (ih k hk).1 rfl⟩

theorem plainTurns : PlainTurns := fun p c hp hc hs =>
  Ev.S.law (by decide) Ev.S.head_true ((can_form hp).1 rfl) (by omega)
theorem turns : Rows.RulesTurnsUptoSaid := overTurns plainTurns
end Go.Proofs.Ytakjjijmcnhpoaa
