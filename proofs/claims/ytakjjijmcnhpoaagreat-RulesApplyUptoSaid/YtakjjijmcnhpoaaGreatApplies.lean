/- Proved here: RulesApply answers true and leaves its arguments as they were. Condition: the arguments hold together at most 1048576 values and letters (the given statement RulesApplyUptoSaid). -/
import Derived.Test.YtakjjijmcnhpoaaGreatPE
import Derived.Test.YtakjjijmcnhpoaaGreatEvM
import Derived.Test.YtakjjijmcnhpoaaGreatRows
import Derived.WalkKit
import Derived.ProofKit
import Derived.OpenShut
import Derived.JoinedCond
import Derived.Carry
namespace Go.Proofs.YtakjjijmcnhpoaaGreat
open Go Go.Ev Go.ChangeShapes Go.WideShapes Go.ChangeAt Go.RowKit
set_option linter.unusedVariables false

abbrev N0 : Nat := 33554432

theorem own : ownKnob Tryz.prog.godebug = none := by kernel_rfl
theorem laidOut : laidOutB Tryz.prog = true := by kernel_rfl
noncomputable def types : List TypeId := reachT Tryz.prog 12 [22, 28, 34]
theorem closed_types : closedT Tryz.prog types = true := by kernel_rfl
theorem in22 : 22 ∈ types := List.contains_iff_mem.1 (by kernel_rfl)
theorem in28 : 28 ∈ types := List.contains_iff_mem.1 (by kernel_rfl)
theorem in34 : 34 ∈ types := List.contains_iff_mem.1 (by kernel_rfl)
theorem under28 : ∃ fs, Tryz.prog.underlying 28 = some (.struct fs) := ⟨_, Tryz.underlying28⟩
theorem under34 : ∃ fs, Tryz.prog.underlying 34 = some (.struct fs) := ⟨_, Tryz.underlying34⟩
theorem under22 : Tryz.prog.underlying 22 = some (.int .i64) := by kernel_rfl
theorem under24 : Tryz.prog.underlying 24 = some (.slice 28) := by kernel_rfl
theorem under25 : ∃ e, Tryz.prog.underlying 25 = some (.slice e) := ⟨3, by kernel_rfl⟩

/-- A number that came in as an argument. -/
theorem arg_int {H : Type} {enc : TypeId × Value → H} {P : Program} (T : TabOk P) {S : List TypeId} (hS : closedT P S = true) {W : World} {held : Bool} {t : TypeId} (ht : t ∈ S) {k : IntKind} (hu : P.underlying t = some (.int k)) {base : Nat} {v : Value} {x : DataW H} {ps : List MemPlace}
    (h : DataW.Trod enc P W 0 (fun _ => true) held t v x ps) (hok : Value.okWide P W .any base t v) : ∃ d, Ev.ArgRel P W (· < W.heap.size) t d v ∧ Ev.Can P t d ∧ sz d ≤ bulk x := by
  obtain ⟨fuel, h⟩ := h
  obtain ⟨d, d1, d2, d3⟩ := trod_rel T hS fuel t _ _ ht h
  refine ⟨d, ⟨d1, ?_⟩, d2, d3⟩
  obtain ⟨n, rfl⟩ := okWide_int hu hok
  have hc := List.all_eq_true.1 hS t ht
  simp only [Bool.and_eq_true, decide_eq_true_eq] at hc
  have hty : ty P t = .int k := by
    unfold ty tyOf
    rw [hu]
    have hlt := hc.1
    have : Nat.ble (t + 1) P.types.size = true := Nat.ble_eq_true_of_le hlt
    rw [this]
  show (mk P t d).isS = false
  simp [mk, hty, A.isS]

/-- What a plan's type tells of its form. -/
theorem can_form {t : TypeId} {d : Ev.D} (h : Ev.Can Tryz.prog t d) : (t = 28 → Ev.S.Pl d ∧ ((d.f 3).nl = true → (d.f 3).es = [])) ∧ (t = 24 → ∃ nl ks, d = .sl nl ks ∧ (nl = true → ks = []) ∧ ∀ k ∈ ks, Ev.S.Pl k) ∧ (t = 25 → d.nl = true → d.es = []) := by
  obtain ⟨e25, u25⟩ := under25
  induction h with
  | int h => exact ⟨fun e => (by subst e; rw [Tryz.underlying28] at h; cases h), fun e => (by subst e; rw [under24] at h; cases h), fun e => (by subst e; rw [u25] at h; cases h)⟩
  | bool h => exact ⟨fun e => (by subst e; rw [Tryz.underlying28] at h; cases h), fun e => (by subst e; rw [under24] at h; cases h), fun e => (by subst e; rw [u25] at h; cases h)⟩
  | str h => exact ⟨fun e => (by subst e; rw [Tryz.underlying28] at h; cases h), fun e => (by subst e; rw [under24] at h; cases h), fun e => (by subst e; rw [u25] at h; cases h)⟩
  | st h hl hx ih =>
    rename_i t fs l
    refine ⟨fun e => ?_, fun e => (by subst e; rw [under24] at h; cases h), fun e => (by subst e; rw [u25] at h; cases h)⟩
    subst e
    rw [Tryz.underlying28] at h
    cases h
    match l, hl, ih with
    | [a, b, c, d, e, f], _, ih =>
      obtain ⟨nl, ks, rfl, h1, h2⟩ := (ih 1 _ b rfl rfl).2.1 rfl
      exact ⟨.mk h1 h2, (ih 3 _ d rfl rfl).2.2 rfl⟩
  | sl h hb hx ih =>
    refine ⟨fun e => (by subst e; rw [Tryz.underlying28] at h; cases h), fun e => ?_, fun e hn => hb hn⟩
    subst e
    rw [under24] at h
    cases h
    exact ⟨_, _, rfl, hb, fun k hk => ((ih k hk).1 rfl).1⟩

mutual
theorem bulk_le {H : Type} : ∀ d : DataW H, bulk d ≤ Rows.uptoBulk d
  | .lit (.string b) => by simp [bulk, Rows.uptoBulk]
  | .lit (.bool _) => by simp [bulk, Rows.uptoBulk]
  | .lit (.int _ _) => by simp [bulk, Rows.uptoBulk]
  | .lit (.float _ _) => by simp [bulk, Rows.uptoBulk]
  | .lit .nil => by simp [bulk, Rows.uptoBulk]
  | .nil => by simp [bulk, Rows.uptoBulk]
  | .ptr d => by simp only [bulk, Rows.uptoBulk]; have := bulk_le d; omega
  | .slice a b => by simp only [bulk, Rows.uptoBulk]; have := bulkL_le a; have := bulkL_le b; omega
  | .agg a => by simp only [bulk, Rows.uptoBulk]; have := bulkL_le a; omega
  | .iface _ d => by simp only [bulk, Rows.uptoBulk]; have := bulk_le d; omega
  | .map _ => by simp only [bulk, Rows.uptoBulk]; omega
  | .held _ => by simp [bulk, Rows.uptoBulk]
theorem bulkL_le {H : Type} : ∀ l : List (DataW H), bulkL l ≤ Rows.uptoBulkAll l
  | [] => Nat.le_refl _
  | d :: l => by simp only [bulkL, Rows.uptoBulkAll]; have := bulk_le d; have := bulkL_le l; omega
end

theorem under4 : Tryz.prog.underlying 4 = some .bool := by kernel_rfl
theorem bool_res {W : World} {Fz : Nat → Prop} {lo : Nat} {v : Value} (h : ResAll Tryz.prog W Fz lo [.dat 4] (.bool true) v) : v = .bool true := by
  have h : Ev.ArgRel Tryz.prog W Fz 4 (.bool true) v := h
  obtain ⟨h1, h2⟩ := h
  have hty : ty Tryz.prog 4 = .bool := by kernel_rfl
  have hu := (ty_bool hty).2
  have hm : mk Tryz.prog 4 (.bool true) = .bool true := by simp [mk, hty, D.b]
  rw [hm] at h2
  have hc := h2.cells rfl
  rw [hc] at h1
  cases h1 with
  | bool ht hb => simp [D.b] at hb; rw [hb]
  | int ht => rw [hu] at ht; cases ht
  | str ht => rw [hu] at ht; cases ht
  | st ht => rw [hu] at ht; cases ht
  | nil ht => rw [hu] at ht; cases ht
  | slE ht => rw [hu] at ht; cases ht
  | sl ht => rw [hu] at ht; cases ht


theorem plain {r p c : Ev.D} (hp : Ev.Can Tryz.prog 28 p) (hs : sz p ≤ 1048576) : Ev.S.RulesApply_ N0 r p c = some (.bool true) :=
  Ev.S.lawA (by decide) Ev.S.head_true ((can_form hp).1 rfl).1 hs ((can_form hp).1 rfl).2

set_option maxRecDepth 100000 in
theorem contract_of {fn : Func} {spec : ChangeSpec} (hpar : fn.params.toList = [22, 28, 34]) (hresT : fn.resultTypes = #[4]) (hvars : spec.vars = []) (hfnres : ∀ (H : Type) (d1 d2 d3 : DataW H), spec.fn H [d1, d2, d3] = { results := [.lit (.bool true)], args := [d1, d2, d3] })
    (H : Type) (enc : TypeId × Value → H) (W : World) (base : Nat) (args : Array Value) (ds gs : List (DataW H)) (before : List MemPlace)
    (hval : ∀ (j : Nat) t v, fn.params[j]? = some t → args[j]? = some v → Value.okWide Tryz.prog W .any base t v)
    (hW : DataW.Whole enc Tryz.prog fn.params.toList spec.vars false W args.toList ds gs before) (hk : Rows.uptoSmall H (ds ++ gs) = true) :
    Calls Tryz.prog 3 args W fun e W' => ∃ v, e = .returned v ∧ spec.post enc Tryz.prog fn false true false false W args v W' := by
  have hC : Contract Tryz.prog { f := 3, ps := [22, 28, 34], rs := [.dat 4], run := fun ds => match ds with | [a, b, c] => Ev.S.RulesApply_ N0 a b c | _ => none } := Ev.S.RulesApply_cl N0
  have hW' := hW
  obtain ⟨p, q, hA, hV, rfl, hfz, hnd⟩ := hW
  rw [hpar] at hA
  rw [hvars] at hV
  obtain ⟨v0, vs0, d0, ds0, p0, q0, hargs, rfl, rfl, h0, r0⟩ := trodAll_cons hA
  obtain ⟨v1, vs1, d1, ds1, p1, q1, hargs1, rfl, rfl, h1, r1⟩ := trodAll_cons r0
  obtain ⟨v2, vs2, d2, ds2, p2, q2, hargs2, rfl, rfl, h2, r2⟩ := trodAll_cons r1
  obtain ⟨rfl, rfl, rfl⟩ := trodAll_nil r2
  have hargs3 : args = #[v0, v1, v2] := by cases args; simp_all
  subst hargs3
  obtain ⟨rfl, rfl⟩ := trodVars_none hV
  have hpar0 : fn.params[0]? = some 22 := by rw [← Array.getElem?_toList, hpar]; rfl
  have hpar1 : fn.params[1]? = some 28 := by rw [← Array.getElem?_toList, hpar]; rfl
  have hpar2 : fn.params[2]? = some 34 := by rw [← Array.getElem?_toList, hpar]; rfl
  obtain ⟨fs1, hu1⟩ := under28
  obtain ⟨fs2, hu2⟩ := under34
  obtain ⟨r, a1, a2, a3⟩ := arg_int Ev.S.T closed_types in22 under22 h0 (hval 0 22 v0 hpar0 rfl)
  obtain ⟨a, b1, b2, b3⟩ := arg_struct Ev.S.T closed_types in28 hu1 h1 (hval 1 28 v1 hpar1 rfl)
  obtain ⟨c, c1, c2, c3⟩ := arg_struct Ev.S.T closed_types in34 hu2 h2 (hval 2 34 v2 hpar2 rfl)
  have hb : Rows.uptoBulk d0 + (Rows.uptoBulk d1 + Rows.uptoBulk d2) ≤ 1048576 := by
    have := of_decide_eq_true (p := Rows.uptoBulkAll ([d0, d1, d2] ++ []) ≤ 1048576) hk
    simp only [List.append_nil, Rows.uptoBulkAll] at this
    omega
  have hb1 := bulk_le d1
  have hrun : Ev.S.RulesApply_ N0 r a c = some (.bool true) := plain b2 (by omega)
  refine (hC.call rfl (· < W.heap.size) W #[v0, v1, v2] [r, a, c] (.bool true) (fun _ h => h) ⟨rfl, rfl, fun i t d v ht hd hv => ?_⟩ hrun).mono fun e W' he => ?_
  · match i, ht, hd, hv with
    | 0, ht, hd, hv => simp at ht hd hv; subst ht; subst hd; subst hv; exact a1
    | 1, ht, hd, hv => simp at ht hd hv; subst ht; subst hd; subst hv; exact b1
    | 2, ht, hd, hv => simp at ht hd hv; subst ht; subst hd; subst hv; exact c1
    | i + 3, ht, _, _ => simp at ht
  · obtain ⟨v, rfl, hq, Fz', _, _, hres⟩ := he
    have hv := bool_res hres
    subst hv
    have hbel : Below W.heap.size W W' := ⟨hq.os, hq.tape, hq.output, hq.size, hq.same⟩
    have hlt0 : ∀ x ∈ p0, x.block < W.heap.size := fun x hx => by simpa using hW'.lt x (by simp [hx])
    have hlt1 : ∀ x ∈ p1, x.block < W.heap.size := fun x hx => by simpa using hW'.lt x (by simp [hx])
    have hlt2 : ∀ x ∈ p2, x.block < W.heap.size := fun x hx => by simpa using hW'.lt x (by simp [hx])
    have hlt22 : 22 < Tryz.prog.types.size := by have := List.all_eq_true.1 closed_types 22 in22; simp only [Bool.and_eq_true, decide_eq_true_eq] at this; exact this.1
    have hlt28 : 28 < Tryz.prog.types.size := by have := List.all_eq_true.1 closed_types 28 in28; simp only [Bool.and_eq_true, decide_eq_true_eq] at this; exact this.1
    have hlt34 : 34 < Tryz.prog.types.size := by have := List.all_eq_true.1 closed_types 34 in34; simp only [Bool.and_eq_true, decide_eq_true_eq] at this; exact this.1
    have hmem : ∀ x, x ∈ p0 ++ (p1 ++ (p2 ++ [])) → x.block < W.heap.size := fun x hx => by
      rcases List.mem_append.1 hx with h | h
      · exact hlt0 x h
      · rcases List.mem_append.1 h with h | h
        · exact hlt1 x h
        · exact hlt2 x (by simpa using h)
    have hres1 : ∀ (b : Nat) (sp : Nat → Bool) (hd : Bool), DataW.TrodAll enc Tryz.prog W' b sp hd fn.resultTypes.toList ((Value.bool true).resultList fn.resultTypes.size) (spec.fn H ([d0, d1, d2] ++ [])).results [] := fun b sp hd => by
      rw [hresT, List.append_nil, hfnres]
      exact trodAll_cons_mk (shut_bool under4 _) trodAll_mk0
    have hargs1 : ∀ sp : Nat → Bool, (∀ x, x ∈ p0 ++ (p1 ++ (p2 ++ [])) → sp x.block = true) → DataW.TrodAll enc Tryz.prog W' 0 sp true fn.params.toList #[v0, v1, v2].toList (spec.fn H ([d0, d1, d2] ++ [])).args (p0 ++ (p1 ++ (p2 ++ []))) := fun sp hsp => by
      rw [hpar, List.append_nil, hfnres]
      exact trodAll_cons_mk (WideElems.Trod_stays laidOut (by kernel_rfl) hlt22 h0 (fun x hx => hbel.same (hlt0 x hx)) (fun x hx => hsp x (by simp [hx])))
        (trodAll_cons_mk (WideElems.Trod_stays laidOut (by kernel_rfl) hlt28 h1 (fun x hx => hbel.same (hlt1 x hx)) (fun x hx => hsp x (by simp [hx])))
          (trodAll_cons_mk (WideElems.Trod_stays laidOut (by kernel_rfl) hlt34 h2 (fun x hx => hbel.same (hlt2 x hx)) (fun x hx => hsp x (by simp [hx]))) trodAll_mk0))
    have hvars1 : ∀ sp : Nat → Bool, DataW.TrodVars enc Tryz.prog W' sp spec.vars (spec.fn H ([d0, d1, d2] ++ [])).vars [] := fun sp => by
      rw [hvars, List.append_nil, hfnres]; rfl
    refine ⟨_, rfl, [d0, d1, d2], [], p0 ++ (p1 ++ (p2 ++ [])) ++ [], [], p0 ++ (p1 ++ (p2 ++ [])), [], hW', hres1 _ _ _, hargs1 _ (fun x hx => by simpa using hmem x hx), hvars1 _, ?_, fun _ => ?_⟩
    · exact World.keptBut_mono (fun x hx => ⟨hx, by simpa using hx⟩) (hbel.frame (· ∈ p0 ++ (p1 ++ (p2 ++ [])) ++ []))
    · refine ⟨ok_one hresT rfl (okWide_bool_mk under4 _), _, _, p0 ++ (p1 ++ (p2 ++ [])), ⟨p0 ++ (p1 ++ (p2 ++ [])), [], trodAll_append (hargs1 _ (fun _ _ => rfl)) (hres1 _ _ _), hvars1 _, by simp, fun b off hx => ?_, fun ha => by cases ha⟩, fun x hx _ => by simpa using hx⟩
      rw [hbel.frozen (hmem _ hx)]
      exact hfz b off (by simpa using hx)

def zeroArgs : Array Value := #[.int .i64 0, .agg #[.int .i64 0, .slice none 0 0, .int .i64 0, .slice none 0 0, .bool false, .slice none 0 0], .agg #[.slice none 0 0, .slice none 0 0, .slice none 0 0, .slice none 0 0, .bool false, .slice none 0 0, .int .i64 0]]
def zeroRead (H : Type) : List (DataW H) := [.lit (.int .i64 0), .agg [.lit (.int .i64 0), .nil, .lit (.int .i64 0), .nil, .lit (.bool false), .nil], .agg [.nil, .nil, .nil, .nil, .lit (.bool false), .nil, .lit (.int .i64 0)]]

set_option maxRecDepth 100000 in
theorem lifted (os : Os) (started : os.Started) (H : Type) (enc : TypeId × Value → H) (F : Stop.Interp) :
    ReturnsInHanded {} Tryz.checked os 3 .any ((Rows.OpenSpec.upto Rows.rulesApplySpec).pre6 enc Tryz.prog Tryz.f3 Rows.rulesApplyUptoRow.domain false) (((Rows.OpenSpec.upto Rows.rulesApplySpec).at F).post enc Tryz.prog Tryz.f3 false true false false) := by
  refine returnsInHanded_of_cond (C := Tryz.checked) (s := Rows.OpenSpec.upto Rows.rulesApplySpec) (k := Rows.uptoSmall) rfl own started (by kernel_rfl) Tryz.func3
    (OpenSpec.witness (enc := enc) (C := Tryz.checked) (s := Rows.OpenSpec.upto Rows.rulesApplySpec) (k := Rows.uptoSmall) rfl false ⟨#[], zeroArgs, []⟩ 8 (by kernel_rfl) (by kernel_rfl) (by kernel_rfl)
      (x := (zeroRead H, [], [])) (by kernel_rfl) rfl (by kernel_rfl)) ?_
  intro W base args ds gs before hval hW _ hk _
  exact contract_of (fn := Tryz.f3) (spec := Rows.rulesApplySpec) rfl rfl rfl (fun _ _ _ _ => rfl) H enc W base args ds gs before hval hW hk

theorem applies : Rows.RulesApplyUptoSaid :=
  OpenClaim.holds_of_cond 3 Tryz.f3 rfl rfl rfl rfl rfl rfl rfl ⟨rfl, rfl, rfl, rfl, rfl⟩ rfl rfl rfl rfl rfl (by kernel_rfl) Tryz.func3 (by kernel_rfl)
    (of_decide_eq_true (by kernel_rfl)) (by unfold Func.isWrapper; first | (rw [if_pos (by decide +kernel)]; kernel_rfl) | (rw [if_neg (by decide +kernel)]; exact ⟨rfl, rfl⟩))
    (fun os started H enc _ F => lifted os started H enc F)
end Go.Proofs.YtakjjijmcnhpoaaGreat
