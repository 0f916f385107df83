/- slices.Sort of numbers, as a summary of E. The functions closed: by rounds and depth. -/
import Derived.Test.YtakjjijmcnhpoaaGreatSO
import Derived.Ground.NamesProg
import Derived.Shelf.Slices.In.SortNone
import Derived.Lib.SortBridge
import Derived.Sort.Grow
import Derived.Test.YtakjjijmcnhpoaaGreatSA
import Derived.Test.YtakjjijmcnhpoaaGreatSC
namespace Go.Proofs
open Go.Shelf
def Tryz.laysSort_ren : Go.Shelf.Ren := ⟨fun | 189 => 80 | 125 => 84 | 257 => 83 | 128 => 95 | 129 => 96 | 294 => 86 | 295 => 87 | 296 => 88 | 297 => 89 | 298 => 90 | 299 => 91 | 216 => 92 | 300 => 93 | 301 => 94 | 328 => 97 | 329 => 98 | 330 => 99 | 331 => 100 | 332 => 101 | 215 => 102 | 343 => 103 | n => n, fun | 28 => 25 | 3 => 3 | 46 => 121 | 0 => 0 | 51 => 132 | 53 => 134 | 4 => 4 | 183 => 125 | 182 => 124 | 131 => 95 | 5 => 5 | 9 => 9 | 218 => 135 | 222 => 139 | 228 => 141 | 229 => 87 | n => n, fun | n => n⟩
theorem Tryz.laysSort : Go.Proofs.Lays.n189 Tryz.prog Tryz.laysSort_ren := {
  mixed := by kernel_rfl
  f125 := Tryz.func84.trans (congrArg some (by kernel_rfl))
  f128 := Tryz.func95.trans (congrArg some (by kernel_rfl))
  f129 := Tryz.func96.trans (congrArg some (by kernel_rfl))
  f189 := Tryz.func80.trans (congrArg some (by kernel_rfl))
  f215 := Tryz.func102.trans (congrArg some (by kernel_rfl))
  f216 := Tryz.func92.trans (congrArg some (by kernel_rfl))
  f257 := Tryz.func83.trans (congrArg some (by kernel_rfl))
  f294 := Tryz.func86.trans (congrArg some (by kernel_rfl))
  f295 := Tryz.func87.trans (congrArg some (by kernel_rfl))
  f296 := Tryz.func88.trans (congrArg some (by kernel_rfl))
  f297 := Tryz.func89.trans (congrArg some (by kernel_rfl))
  f298 := Tryz.func90.trans (congrArg some (by kernel_rfl))
  f299 := Tryz.func91.trans (congrArg some (by kernel_rfl))
  f300 := Tryz.func93.trans (congrArg some (by kernel_rfl))
  f301 := Tryz.func94.trans (congrArg some (by kernel_rfl))
  f328 := Tryz.func97.trans (congrArg some (by kernel_rfl))
  f329 := Tryz.func98.trans (congrArg some (by kernel_rfl))
  f330 := Tryz.func99.trans (congrArg some (by kernel_rfl))
  f331 := Tryz.func100.trans (congrArg some (by kernel_rfl))
  f332 := Tryz.func101.trans (congrArg some (by kernel_rfl))
  f343 := Tryz.func103.trans (congrArg some (by kernel_rfl))
  t0 := Tryz.underlying0
  a0 := Tryz.isAgg0
  z0 := Tryz.sizeOf0
  v0 := Tryz.zeroValue0
  t3 := Tryz.underlying3
  a3 := Tryz.isAgg3
  z3 := Tryz.sizeOf3
  v3 := Tryz.zeroValue3
  t4 := Tryz.underlying4
  a4 := Tryz.isAgg4
  z4 := Tryz.sizeOf4
  v4 := Tryz.zeroValue4
  t5 := Tryz.underlying5
  a5 := Tryz.isAgg5
  z5 := Tryz.sizeOf5
  v5 := Tryz.zeroValue5
  t9 := Tryz.underlying9
  a9 := Tryz.isAgg9
  z9 := Tryz.sizeOf9
  v9 := Tryz.zeroValue9
  t28 := Tryz.underlying25
  a28 := Tryz.isAgg25
  z28 := Tryz.sizeOf25
  v28 := Tryz.zeroValue25
  t46 := Tryz.underlying121
  a46 := Tryz.isAgg121
  z46 := Tryz.sizeOf121
  v46 := Tryz.zeroValue121
  t51 := Tryz.underlying132
  a51 := Tryz.isAgg132
  z51 := Tryz.sizeOf132
  v51 := Tryz.zeroValue132
  t53 := Tryz.underlying134
  a53 := Tryz.isAgg134
  z53 := Tryz.sizeOf134
  v53 := Tryz.zeroValue134
  t131 := Tryz.underlying95
  a131 := Tryz.isAgg95
  z131 := Tryz.sizeOf95
  v131 := Tryz.zeroValue95
  t182 := Tryz.underlying124
  a182 := Tryz.isAgg124
  z182 := Tryz.sizeOf124
  v182 := Tryz.zeroValue124
  t183 := Tryz.underlying125
  a183 := Tryz.isAgg125
  z183 := Tryz.sizeOf125
  v183 := Tryz.zeroValue125
  t218 := Tryz.underlying135
  a218 := Tryz.isAgg135
  z218 := Tryz.sizeOf135
  v218 := Tryz.zeroValue135
  t222 := Tryz.underlying139
  a222 := Tryz.isAgg139
  z222 := Tryz.sizeOf139
  v222 := Tryz.zeroValue139
  t228 := Tryz.underlying141
  a228 := Tryz.isAgg141
  z228 := Tryz.sizeOf141
  v228 := Tryz.zeroValue141
  t229 := Tryz.underlying87
  a229 := Tryz.isAgg87
  z229 := Tryz.sizeOf87
  v229 := Tryz.zeroValue87 }
end Go.Proofs
namespace Go.Ev.S
open Go Go.Ev Go.Proofs Go.Sort Go.Shelf

noncomputable def sortL (l : List D) : List Int := (l.map D.n).mergeSort fun x y => decide (x ≤ y)
noncomputable def Sort_ (_ : Nat) (a : D) : Option D := cnd (decide (a.es.length < 4611686018427387904)) (some (.st [.sl false ((sortL a.es).map D.int)])) none
theorem sortL_len (l : List D) : (sortL l).length = l.length := by simp [sortL, List.length_mergeSort]

theorem under3 : prog.underlying 3 = some (.int .i64) := by kernel_rfl
theorem cells3 : prog.cellsOf 3 = 1 := by kernel_rfl
theorem ty24 : ty prog 25 = .slice 3 := by kernel_rfl
theorem int_cell {w : World} {Fz : Nat → Prop} {d : D} {cs : List Value} (h : DRel prog w Fz 3 d cs) : cs = [.int .i64 d.n] := by
  cases h with
  | int ht hn => rw [under3] at ht; cases ht; rw [hn]
  | bool ht => rw [under3] at ht; cases ht
  | str ht => rw [under3] at ht; cases ht
  | st ht => rw [under3] at ht; cases ht
  | nil ht => rw [under3] at ht; cases ht
  | slE ht => rw [under3] at ht; cases ht
  | sl ht => rw [under3] at ht; cases ht

theorem Sort_ok (N : Nat) : Contract prog (s_Sort (Sort_ N)) := by
  refine ⟨⟨_, Tryz.func80, rfl⟩, fun h => (by cases h), fun i hi Fz w args ds d e b cap c hFz hl1 hl2 hargs hai ht harr hd => ?_, fun i hi _ Fz w args ds d hFz hl1 hl2 hargs hai hes hd => ?_⟩
  · have hi : 0 = i := by cases hi; rfl
    subst hi
    have hl2 : 1 = args.size := hl2
    match ds, hl1 with
    | [a], hl1 =>
      have hd : Sort_ N a = some d := hd
      obtain ⟨hsz, hd⟩ := cnd_none hd
      have hsz : a.es.length < 4611686018427387904 := of_decide_eq_true hsz
      cases hd
      obtain ⟨t, ht1, ht2⟩ := ht
      have : t = 25 := by have h : some 25 = some t := ht1; cases h; rfl
      subst this
      rw [ty24] at ht2; cases ht2
      have hargs' : args = #[.slice (some ⟨b, 0, none⟩) a.es.length cap] := by
        have h0 : args[0]? = some (.slice (some ⟨b, 0, none⟩) a.es.length cap) := hai
        apply Array.ext
        · simp; omega
        · intro j h1 h2
          have : j = 0 := by omega
          subst this
          rw [Array.getElem?_eq_getElem h1] at h0
          simpa using h0
      subst hargs'
      have harr : ArrAt prog w Fz 3 a.es b cap c := harr
      have hcell := harr.blk
      have hcs : cap ≤ c.size := by have := harr.fit; rw [cells3] at this; omega
      have hblt : b < w.heap.size := (Array.getElem?_eq_some_iff.1 hcell).1
      have hget : ∀ j, j < a.es.length → c.toList[j]? = some (.int .i64 ((a.es.map D.n).getD j 0)) := fun j hj => by
        have := harr.els j a.es[j] (List.getElem?_eq_getElem hj)
        rw [cells3] at this
        have h1 := int_cell this
        unfold cellsIn at h1
        have h2 : ((c.toList.drop (j * 1)).take 1)[0]? = some (.int .i64 a.es[j].n) := by rw [h1]; rfl
        rw [List.getElem?_take, if_pos (by omega), List.getElem?_drop] at h2
        have h3 : c.toList[j]? = some (.int .i64 a.es[j].n) := by simpa using h2
        rw [h3]
        simp [List.getD_eq_getElem?_getD, List.getElem?_map, List.getElem?_eq_getElem hj]
      have hH := Lib.holds_of_ints (zs := a.es.map D.n) (b := b) (off := 0) (n := a.es.length) (w := w) (by simp) (fun j hj => by
        have hj : j < a.es.length := by simpa using hj
        have := hget j hj
        simp only [World.cell?, hcell, Nat.zero_add]
        simpa using this) (fun j hj => frozen_of_row w b (0 + j) c 3 hcell)
      have htk : (a.es.map D.n).take a.es.length = a.es.map D.n := List.take_of_length_le (by simp)
      rw [htk] at hH
      have hcalls := calls_of_every_depth (fun dep => AnyS.slices_Sort_int_alone Tryz.laysSort dep b 0 cap (a.es.map D.n) w hH hblt (by simpa using hsz))
      have hl : (a.es.map D.n).length = a.es.length := by simp
      rw [hl] at hcalls
      refine (show Calls prog 80 _ w _ from hcalls).mono fun en w' he => ?_
      obtain ⟨rfl, q, os, rfl⟩ := he
      rw [Lib.sorted_world _ w b 0 q _ _ os hH (by simp [List.length_mergeSort])]
      have hsl : ((a.es.map D.n).mergeSort fun x y => decide (x ≤ y)) = sortL a.es := rfl
      rw [hsl]
      have hnl : ((sortL a.es).map (Value.int .i64)).length = a.es.length := by simp [sortL_len]
      have hfit : 0 + ((sortL a.es).map (Value.int .i64)).length ≤ c.size := by rw [hnl]; have := harr.le; omega
      obtain ⟨c', g1, g2⟩ := setCells_heap b ((sortL a.es).map (Value.int .i64)) 0 (w.drewN q) c 3 hcell hfit
      have hbsz : b < ((w.drewN q).setCells b 0 ((sortL a.es).map (Value.int .i64))).heap.size := (Array.getElem?_eq_some_iff.1 g1).1
      obtain ⟨s1, s2, s3, s4⟩ := setCells_os b ((sortL a.es).map (Value.int .i64)) 0 (w.drewN q)
      have hsz4 : ((w.drewN q).setCells b 0 ((sortL a.es).map (Value.int .i64))).heap.size = w.heap.size := s4
      have hc's : c'.size = c.size := by rw [← Array.length_toList, g2, ow_length (by simpa using hfit)]; simp
      refine ⟨_, rfl, ⟨s1, s2, s3, by rw [size_grow, hsz4]; omega, fun k hk hne => ?_⟩, Fz, fun _ h => h, fun b' hb' => .inl hb', ⟨#[], rfl, rfl, fun i r x hr => by simp [s_Sort] at hr⟩, ?_, c', hc's, ?_⟩
      · rw [heap_grow_old _ _ (by rw [hsz4]; exact hk)]
        exact setCells_other b _ 0 (w.drewN q) k hne
      · show ((sortL a.es).map D.int).length = a.es.length
        simp [sortL_len]
      · show ArrAt prog _ Fz 3 ((sortL a.es).map D.int) b cap c'
        refine ⟨by rw [heap_grow_old _ _ hbsz]; exact g1, by simp [sortL_len]; exact harr.le, by rw [hc's]; exact harr.fit, harr.nfz, fun i x hx => ?_⟩
        rw [cells3]
        have hi : i < (sortL a.es).length := by simpa using (List.getElem?_eq_some_iff.1 hx).1
        have hx' : x = .int (sortL a.es)[i] := by
          rw [List.getElem?_map, List.getElem?_eq_getElem hi] at hx
          simpa using hx.symm
        subst hx'
        have : cellsIn c' (i * 1) 1 = [.int .i64 (sortL a.es)[i]] := by
          unfold cellsIn
          rw [g2]
          apply List.ext_getElem?
          intro m
          rw [List.getElem?_take]
          split
          · rename_i hm
            have : m = 0 := by omega
            subst this
            rw [List.getElem?_drop, ow_get (by simpa using hfit), if_neg (by omega), if_pos (by rw [hnl, ← sortL_len]; omega)]
            simp [List.getElem?_map, List.getElem?_eq_getElem hi]
          · rw [List.getElem?_eq_none (by simp; omega)]
        rw [this]
        exact .int under3 rfl
  · have hi : 0 = i := by cases hi; rfl
    subst hi
    have hl2 : 1 = args.size := hl2
    match ds, hl1 with
    | [a], hl1 =>
      have hd : Sort_ N a = some d := hd
      obtain ⟨_, hd⟩ := cnd_none hd
      cases hd
      have hes : a.es = [] := hes
      have hargs' : args = #[.slice none 0 0] := by
        have h0 : args[0]? = some (.slice none 0 0) := hai
        apply Array.ext
        · simp; omega
        · intro j h1 h2
          have : j = 0 := by omega
          subst this
          rw [Array.getElem?_eq_getElem h1] at h0
          simpa using h0
      subst hargs'
      have hcalls := calls_of_every_depth (fun dep => AnyS.slices_Sort_int_none_alone Tryz.laysSort dep none 0 w)
      refine (show Calls prog 80 _ w _ from hcalls).mono fun en w' he => ?_
      obtain ⟨rfl, rfl⟩ := he
      refine ⟨_, rfl, ⟨rfl, rfl, rfl, Nat.le_refl _, fun _ _ => rfl⟩, Fz, fun _ h => h, fun b' hb' => .inl hb', ⟨#[], rfl, rfl, fun i r x hr => by simp [s_Sort] at hr⟩, ?_⟩
      show (sortL a.es).map D.int = []
      exact List.eq_nil_of_length_eq_zero (by simp [sortL_len, hes])
end Go.Ev.S

namespace Go.Ev.S
open Go Go.Ev Go.Proofs
set_option maxRecDepth 100000
set_option maxHeartbeats 4000000
set_option linter.unusedVariables false
-- CLOSED
noncomputable def SameV_ (N : Nat) : D → D → Option D := SameV N
theorem SameV_cl (N : Nat) : Contract prog (s_SameV (SameV_ N)) := SameV_ok N
noncomputable def Slots_ (N : Nat) : Nat → D → Option D
  | 0 => fun _ => none
  | k + 1 => Slots (Slots_ N k) (Sort_ N) N
theorem Slots_cl (N k : Nat) : Contract prog (s_Slots (Slots_ N k)) := by
  induction k with
  | zero => exact Contract.nothing ⟨_, Tryz.func65, rfl⟩ (fun ds => by dsimp only [Slots_]; split <;> rfl)
  | succ k ih => exact Slots_ok _ _ ih (Sort_ok N) N
noncomputable def Safe_ (N : Nat) : Nat → D → Option D
  | 0 => fun _ => none
  | k + 1 => Safe (Safe_ N k) N
theorem Safe_cl (N k : Nat) : Contract prog (s_Safe (Safe_ N k)) := by
  induction k with
  | zero => exact Contract.nothing ⟨_, Tryz.func60, rfl⟩ (fun ds => by dsimp only [Safe_]; split <;> rfl)
  | succ k ih => exact Safe_ok _ ih N
noncomputable def binds_ (N : Nat) : D → D → Option D := binds (Slots_ N N) N
theorem binds_cl (N : Nat) : Contract prog (s_binds (binds_ N)) := binds_ok _ (Slots_cl N N) N
noncomputable def ends_ (N : Nat) : D → D → Option D := ends N
theorem ends_cl (N : Nat) : Contract prog (s_ends (ends_ N)) := ends_ok N
noncomputable def edge_ (N : Nat) : D → D → D → Option D := edge (ends_ N) N
theorem edge_cl (N : Nat) : Contract prog (s_edge (edge_ N)) := edge_ok _ (ends_cl N) N
noncomputable def meetB_ (N : Nat) : D → D → D → Option D := meetB N
theorem meetB_cl (N : Nat) : Contract prog (s_meetB (meetB_ N)) := meetB_ok N
noncomputable def pattern_ (N : Nat) : D → Option D := pattern N
theorem pattern_cl (N : Nat) : Contract prog (s_pattern (pattern_ N)) := pattern_ok N
noncomputable def safe_ (N : Nat) : D → Option D := safe (Safe_ N N) N
theorem safe_cl (N : Nat) : Contract prog (s_safe (safe_ N)) := safe_ok _ (Safe_cl N N) N
noncomputable def ContainsOp_ (N : Nat) : D → D → Option D := ContainsOp N
theorem ContainsOp_cl (N : Nat) : Contract prog (s_ContainsOp (ContainsOp_ N)) := ContainsOp_ok N
noncomputable def step_ (N : Nat) : D → D → Option D := step (ContainsOp_ N) N
theorem step_cl (N : Nat) : Contract prog (s_step (step_ N)) := step_ok _ (ContainsOp_cl N) N
noncomputable def filter_ (N : Nat) : D → D → Option D := filter N
theorem filter_cl (N : Nat) : Contract prog (s_filter (filter_ N)) := filter_ok N
noncomputable def ConcatT_ (N : Nat) : D → Option D := ConcatT N
theorem ConcatT_cl (N : Nat) : Contract prog (s_ConcatT (ConcatT_ N)) := ConcatT_ok N
noncomputable def ConcatI_ (N : Nat) : D → Option D := ConcatI N
theorem ConcatI_cl (N : Nat) : Contract prog (s_ConcatI (ConcatI_ N)) := ConcatI_ok N
noncomputable def CloneI_ (N : Nat) : D → Option D := CloneI N
theorem CloneI_cl (N : Nat) : Contract prog (s_CloneI (CloneI_ N)) := CloneI_ok N
noncomputable def replaced_ (N : Nat) : D → D → D → Option D := replaced N
theorem replaced_cl (N : Nat) : Contract prog (s_replaced (replaced_ N)) := replaced_ok N
noncomputable def slots_ (N : Nat) : D → Option D := slots (Slots_ N N) N
theorem slots_cl (N : Nat) : Contract prog (s_slots (slots_ N)) := slots_ok _ (Slots_cl N N) N
noncomputable def bound_ (N : Nat) : Nat → D → D → Option D
  | 0 => fun _ _ => none
  | k + 1 => bound (binds_ N) (bound_ N k) (edge_ N) (meetB_ N) N
theorem bound_cl (N k : Nat) : Contract prog (s_bound (bound_ N k)) := by
  induction k with
  | zero => exact Contract.nothing ⟨_, Tryz.func30, rfl⟩ (fun ds => by dsimp only [bound_]; split <;> rfl)
  | succ k ih => exact bound_ok _ _ _ _ (binds_cl N) ih (edge_cl N) (meetB_cl N) N
noncomputable def Bound_ (N : Nat) : D → D → Option D := Bound (bound_ N N) (pattern_ N) N
theorem Bound_cl (N : Nat) : Contract prog (s_Bound (Bound_ N)) := Bound_ok _ _ (bound_cl N N) (pattern_cl N) N
noncomputable def knows_ (N : Nat) : D → D → D → Option D := knows (Bound_ N) N
theorem knows_cl (N : Nat) : Contract prog (s_knows (knows_ N)) := knows_ok _ (Bound_cl N) N
noncomputable def touches_ (N : Nat) : D → D → D → D → Option D := touches (knows_ N) N
theorem touches_cl (N : Nat) : Contract prog (s_touches (touches_ N)) := touches_ok _ (knows_cl N) N
noncomputable def split_ (N : Nat) : D → D → Option D := split (filter_ N) (safe_ N) N
theorem split_cl (N : Nat) : Contract prog (s_split (split_ N)) := split_ok _ _ (filter_cl N) (safe_cl N) N
noncomputable def merge_ (N : Nat) : D → D → Option D := merge (ConcatT_ N) (filter_ N) (safe_ N) N
theorem merge_cl (N : Nat) : Contract prog (s_merge (merge_ N)) := merge_ok _ _ _ (ConcatT_cl N) (filter_cl N) (safe_cl N) N
noncomputable def down_ (N : Nat) : D → D → Option D := down (filter_ N) (knows_ N) (replaced_ N) (safe_ N) (slots_ N) (step_ N) N
theorem down_cl (N : Nat) : Contract prog (s_down (down_ N)) := down_ok _ _ _ _ _ _ (filter_cl N) (knows_cl N) (replaced_cl N) (safe_cl N) (slots_cl N) (step_cl N) N
noncomputable def sides_ (N : Nat) : D → D → Option D := sides (filter_ N) (knows_ N) (replaced_ N) (safe_ N) (slots_ N) (step_ N) N
theorem sides_cl (N : Nat) : Contract prog (s_sides (sides_ N)) := sides_ok _ _ _ _ _ _ (filter_cl N) (knows_cl N) (replaced_cl N) (safe_cl N) (slots_cl N) (step_cl N) N
noncomputable def turn_ (N : Nat) : D → D → Option D := turn (replaced_ N) (step_ N) N
theorem turn_cl (N : Nat) : Contract prog (s_turn (turn_ N)) := turn_ok _ _ (replaced_cl N) (step_cl N) N
noncomputable def drop_ (N : Nat) : D → D → Option D := drop (knows_ N) (step_ N) N
theorem drop_cl (N : Nat) : Contract prog (s_drop (drop_ N)) := drop_ok _ _ (knows_cl N) (step_cl N) N
noncomputable def chain_ (N : Nat) : D → D → Option D := chain (knows_ N) (replaced_ N) (step_ N) N
theorem chain_cl (N : Nat) : Contract prog (s_chain (chain_ N)) := chain_ok _ _ _ (knows_cl N) (replaced_cl N) (step_cl N) N
noncomputable def meet_ (N : Nat) : D → D → Option D := meet (ConcatI_ N) (knows_ N) (step_ N) (touches_ N) N
theorem meet_cl (N : Nat) : Contract prog (s_meet (meet_ N)) := meet_ok _ _ _ _ (ConcatI_cl N) (knows_cl N) (step_cl N) (touches_cl N) N
noncomputable def more_ (N : Nat) : D → D → Option D := more (ConcatI_ N) (step_ N) (touches_ N) N
theorem more_cl (N : Nat) : Contract prog (s_more (more_ N)) := more_ok _ _ _ (ConcatI_cl N) (step_cl N) (touches_cl N) N
noncomputable def one_ (N : Nat) : D → D → Option D := one (CloneI_ N) (step_ N) N
theorem one_cl (N : Nat) : Contract prog (s_one (one_ N)) := one_ok _ _ (CloneI_cl N) (step_cl N) N
noncomputable def Apply_ (N : Nat) : D → D → D → Option D := Apply (Bound_ N) (chain_ N) (down_ N) (drop_ N) (meet_ N) (merge_ N) (more_ N) (one_ N) (sides_ N) (split_ N) (turn_ N) N
theorem Apply_cl (N : Nat) : Contract prog (s_Apply (Apply_ N)) := Apply_ok _ _ _ _ _ _ _ _ _ _ _ (Bound_cl N) (chain_cl N) (down_cl N) (drop_cl N) (meet_cl N) (merge_cl N) (more_cl N) (one_cl N) (sides_cl N) (split_cl N) (turn_cl N) N
noncomputable def ContainsR_ (N : Nat) : D → D → Option D := ContainsR N
theorem ContainsR_cl (N : Nat) : Contract prog (s_ContainsR (ContainsR_ N)) := ContainsR_ok N
noncomputable def first_ (N : Nat) : Nat → D → D → D → Option D
  | 0 => fun _ _ _ => none
  | k + 1 => first (Apply_ N) (first_ N k) (replaced_ N) N
theorem first_cl (N k : Nat) : Contract prog (s_first (first_ N k)) := by
  induction k with
  | zero => exact Contract.nothing ⟨_, Tryz.func28, rfl⟩ (fun ds => by dsimp only [first_]; split <;> rfl)
  | succ k ih => exact first_ok _ _ _ (Apply_cl N) ih (replaced_cl N) N
noncomputable def Rewrite_ (N : Nat) : D → D → D → Option D := Rewrite (ContainsR_ N) (first_ N N) N
theorem Rewrite_cl (N : Nat) : Contract prog (s_Rewrite (Rewrite_ N)) := Rewrite_ok _ _ (ContainsR_cl N) (first_cl N N) N
noncomputable def both_ (N : Nat) : Nat → (D → D → Option D) × (D → D → Option D)
  | 0 => (fun _ _ => none, fun _ _ => none)
  | k + 1 => (SameTerm (both_ N k).2 (SameV_ N) N, SameTerms (both_ N k).1 N)
noncomputable def SameTerm_ (N k : Nat) : D → D → Option D := (both_ N k).1
noncomputable def SameTerms_ (N k : Nat) : D → D → Option D := (both_ N k).2
theorem both_cl (N k : Nat) : Contract prog (s_SameTerm (both_ N k).1) ∧ Contract prog (s_SameTerms (both_ N k).2) := by
  induction k with
  | zero => exact ⟨Contract.nothing ⟨_, Tryz.func50, rfl⟩ (fun ds => by dsimp only [both_]; split <;> rfl), Contract.nothing ⟨_, Tryz.func26, rfl⟩ (fun ds => by dsimp only [both_]; split <;> rfl)⟩
  | succ k ih => exact ⟨SameTerm_ok _ _ ih.2 (SameV_cl N) N, SameTerms_ok _ ih.1 N⟩
theorem SameTerm_cl (N k : Nat) : Contract prog (s_SameTerm (SameTerm_ N k)) := (both_cl N k).1
theorem SameTerms_cl (N k : Nat) : Contract prog (s_SameTerms (SameTerms_ N k)) := (both_cl N k).2
noncomputable def SamePlan_ (N : Nat) : Nat → D → D → Option D
  | 0 => fun _ _ => none
  | k + 1 => SamePlan (SamePlan_ N k) (SameTerms_ N N) N
theorem SamePlan_cl (N k : Nat) : Contract prog (s_SamePlan (SamePlan_ N k)) := by
  induction k with
  | zero => exact Contract.nothing ⟨_, Tryz.func8, rfl⟩ (fun ds => by dsimp only [SamePlan_]; split <;> rfl)
  | succ k ih => exact SamePlan_ok _ _ ih (SameTerms_cl N N) N
noncomputable def terms_ (N : Nat) : Nat → D → D → Option D
  | 0 => fun _ _ => none
  | k + 1 => terms (terms_ N k) N
theorem terms_cl (N k : Nat) : Contract prog (s_terms (terms_ N k)) := by
  induction k with
  | zero => exact Contract.nothing ⟨_, Tryz.func10, rfl⟩ (fun ds => by dsimp only [terms_]; split <;> rfl)
  | succ k ih => exact terms_ok _ ih N
noncomputable def Parts_ (N : Nat) : Nat → D → D → Option D
  | 0 => fun _ _ => none
  | k + 1 => Parts (Parts_ N k) (terms_ N N) N
theorem Parts_cl (N k : Nat) : Contract prog (s_Parts (Parts_ N k)) := by
  induction k with
  | zero => exact Contract.nothing ⟨_, Tryz.func5, rfl⟩ (fun ds => by dsimp only [Parts_]; split <;> rfl)
  | succ k ih => exact Parts_ok _ _ ih (terms_cl N N) N
noncomputable def head_ (N : Nat) : Option D := head (Rewrite_ N) N
theorem head_cl (N : Nat) : Contract prog (s_head (head_ N)) := head_ok _ (Rewrite_cl N) N
noncomputable def Union_ (N : Nat) : D → D → Option D := Union N
theorem Union_cl (N : Nat) : Contract prog (s_Union (Union_ N)) := Union_ok N
noncomputable def rSlots_ (N : Nat) : Nat → D → Option D
  | 0 => fun _ => none
  | k + 1 => rSlots (Union_ N) (rSlots_ N k) N
theorem rSlots_cl (N k : Nat) : Contract prog (s_rSlots (rSlots_ N k)) := by
  induction k with
  | zero => exact Contract.nothing ⟨_, Tryz.func82, rfl⟩ (fun ds => by dsimp only [rSlots_]; split <;> rfl)
  | succ k ih => exact rSlots_ok _ _ (Union_cl N) ih N
noncomputable def rSafe_ (N : Nat) : Nat → D → Option D
  | 0 => fun _ => none
  | k + 1 => rSafe (rSafe_ N k) N
theorem rSafe_cl (N k : Nat) : Contract prog (s_rSafe (rSafe_ N k)) := by
  induction k with
  | zero => exact Contract.nothing ⟨_, Tryz.func71, rfl⟩ (fun ds => by dsimp only [rSafe_]; split <;> rfl)
  | succ k ih => exact rSafe_ok _ ih N
noncomputable def AllSafe_ (N : Nat) : D → Option D := AllSafe (rSafe_ N N) N
theorem AllSafe_cl (N : Nat) : Contract prog (s_AllSafe (AllSafe_ N)) := AllSafe_ok _ (rSafe_cl N N) N
noncomputable def rEnds_ (N : Nat) : D → D → Option D := rEnds N
theorem rEnds_cl (N : Nat) : Contract prog (s_rEnds (rEnds_ N)) := rEnds_ok N
noncomputable def rone_ (N : Nat) : D → D → D → Option D := rone (rEnds_ N) N
theorem rone_cl (N : Nat) : Contract prog (s_rone (rone_ N)) := rone_ok _ (rEnds_cl N) N
noncomputable def rmeets_ (N : Nat) : D → D → D → Option D := rmeets N
theorem rmeets_cl (N : Nat) : Contract prog (s_rmeets (rmeets_ N)) := rmeets_ok N
noncomputable def rBinds_ (N : Nat) : D → D → Option D := rBinds (rSlots_ N N) N
theorem rBinds_cl (N : Nat) : Contract prog (s_rBinds (rBinds_ N)) := rBinds_ok _ (rSlots_cl N N) N
noncomputable def rbound_ (N : Nat) : Nat → D → D → Option D
  | 0 => fun _ _ => none
  | k + 1 => rbound (rBinds_ N) (rbound_ N k) (rmeets_ N) (rone_ N) N
theorem rbound_cl (N k : Nat) : Contract prog (s_rbound (rbound_ N k)) := by
  induction k with
  | zero => exact Contract.nothing ⟨_, Tryz.func42, rfl⟩ (fun ds => by dsimp only [rbound_]; split <;> rfl)
  | succ k ih => exact rbound_ok _ _ _ _ (rBinds_cl N) ih (rmeets_cl N) (rone_cl N) N
noncomputable def Pattern_ (N : Nat) : D → Option D := Pattern N
theorem Pattern_cl (N : Nat) : Contract prog (s_Pattern (Pattern_ N)) := Pattern_ok N
noncomputable def rBound_ (N : Nat) : D → D → Option D := rBound (Pattern_ N) (rbound_ N N) N
theorem rBound_cl (N : Nat) : Contract prog (s_rBound (rBound_ N)) := rBound_ok _ _ (Pattern_cl N) (rbound_cl N N) N
noncomputable def rfilter_ (N : Nat) : D → D → Option D := rfilter N
theorem rfilter_cl (N : Nat) : Contract prog (s_rfilter (rfilter_ N)) := rfilter_ok N
noncomputable def Binds14_ (N : Nat) : D → D → D → Option D := Binds14 (rBinds_ N) (rBound_ N) N
theorem Binds14_cl (N : Nat) : Contract prog (s_Binds14 (Binds14_ N)) := Binds14_ok _ _ (rBinds_cl N) (rBound_cl N) N
noncomputable def over_ (N : Nat) : D → D → Option D := over N
theorem over_cl (N : Nat) : Contract prog (s_over (over_ N)) := over_ok N
noncomputable def rknows_ (N : Nat) : D → D → D → Option D := rknows (rBound_ N) N
theorem rknows_cl (N : Nat) : Contract prog (s_rknows (rknows_ N)) := rknows_ok _ (rBound_cl N) N
noncomputable def rtouches_ (N : Nat) : D → D → D → D → Option D := rtouches (rknows_ N) N
theorem rtouches_cl (N : Nat) : Contract prog (s_rtouches (rtouches_ N)) := rtouches_ok _ (rknows_cl N) N
noncomputable def filters_ (N : Nat) : D → D → D → Option D := filters (AllSafe_ N) (Binds14_ N) (over_ N) (rfilter_ N) N
theorem filters_cl (N : Nat) : Contract prog (s_filters (filters_ N)) := filters_ok _ _ _ _ (AllSafe_cl N) (Binds14_cl N) (over_cl N) (rfilter_cl N) N
noncomputable def joins_ (N : Nat) : D → D → D → Option D := joins (over_ N) (rknows_ N) N
theorem joins_cl (N : Nat) : Contract prog (s_joins (joins_ N)) := joins_ok _ _ (over_cl N) (rknows_cl N) N
noncomputable def meets14_ (N : Nat) : D → D → D → Option D := meets14 (rEnds_ N) (rknows_ N) (rtouches_ N) N
theorem meets14_cl (N : Nat) : Contract prog (s_meets14 (meets14_ N)) := meets14_ok _ _ _ (rEnds_cl N) (rknows_cl N) (rtouches_cl N) N
noncomputable def rApply_ (N : Nat) : D → D → D → Option D := rApply (filters_ N) (joins_ N) (meets14_ N) (rBound_ N) N
theorem rApply_cl (N : Nat) : Contract prog (s_rApply (rApply_ N)) := rApply_ok _ _ _ _ (filters_cl N) (joins_cl N) (meets14_cl N) (rBound_cl N) N
noncomputable def RulesApply_ (N : Nat) : D → D → D → Option D := RulesApply (Apply_ N) (Parts_ N N) (SamePlan_ N N) (head_ N) (rApply_ N) N
theorem RulesApply_cl (N : Nat) : Contract prog (s_RulesApply (RulesApply_ N)) := RulesApply_ok _ _ _ _ _ (Apply_cl N) (Parts_cl N N) (SamePlan_cl N N) (head_cl N) (rApply_cl N) N
end Go.Ev.S
