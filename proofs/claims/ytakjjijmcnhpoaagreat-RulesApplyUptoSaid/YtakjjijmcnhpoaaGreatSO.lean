/- Residuals of the functions, and what they promise (printed by mkS.py). -/
import Derived.Test.YtakjjijmcnhpoaaGreatEvM
import Derived.Test.YtakjjijmcnhpoaaGreatProg
import Derived.KernelRfl
namespace Go.Ev.S
open Go Go.Ev Go.Proofs
set_option maxRecDepth 100000
set_option maxHeartbeats 4000000
set_option linter.unusedVariables false
noncomputable abbrev prog : Program := Tryz.prog
theorem T : TabOk prog := TabOk.of (by kernel_rfl)
theorem F : FnOk prog := FnOk.of (by kernel_rfl)
theorem mix : prog.follows .mixedOrders = true := by kernel_rfl
theorem hS_nil : ∀ s ∈ ([] : List Spec), Contract prog s := fun s h => by cases h
theorem hS_cons {s : Spec} {l : List Spec} (h : Contract prog s) (t : ∀ x ∈ l, Contract prog x) : ∀ x ∈ s :: l, Contract prog x := fun x hx => by
  rcases List.mem_cons.1 hx with rfl | hx
  · exact h
  · exact t x hx
noncomputable def s_SameV (G : D → D → Option D) : Spec := { f := 72, ps := [50, 50], rs := [.dat 4], run := fun ds => match ds with | [a, b] => G a b | _ => none }
noncomputable def s_Sort (G : D → Option D) : Spec := { f := 80, ps := [25], rs := [], wr := some 0, wn := true, run := fun ds => match ds with | [a] => G a | _ => none }
noncomputable def s_Slots (G : D → Option D) : Spec := { f := 65, ps := [52], rs := [.dat 25], run := fun ds => match ds with | [a] => G a | _ => none }
noncomputable def s_Safe (G : D → Option D) : Spec := { f := 60, ps := [52], rs := [.dat 4], run := fun ds => match ds with | [a] => G a | _ => none }
noncomputable def s_binds (G : D → D → Option D) : Spec := { f := 58, ps := [53, 52], rs := [.dat 4], run := fun ds => match ds with | [a, b] => G a b | _ => none }
noncomputable def s_ends (G : D → D → Option D) : Spec := { f := 74, ps := [77, 4], rs := [.dat 3, .dat 3], run := fun ds => match ds with | [a, b] => G a b | _ => none }
noncomputable def s_edge (G : D → D → D → Option D) : Spec := { f := 54, ps := [66, 28, 53], rs := [.dat 4], wr := some 2, run := fun ds => match ds with | [a, b, c] => G a b c | _ => none }
noncomputable def s_meetB (G : D → D → D → Option D) : Spec := { f := 55, ps := [66, 28, 53], rs := [.dat 4], wr := some 2, run := fun ds => match ds with | [a, b, c] => G a b c | _ => none }
noncomputable def s_pattern (G : D → Option D) : Spec := { f := 29, ps := [34], rs := [.dat 4], run := fun ds => match ds with | [a] => G a | _ => none }
noncomputable def s_safe (G : D → Option D) : Spec := { f := 31, ps := [28], rs := [.dat 4], run := fun ds => match ds with | [a] => G a | _ => none }
noncomputable def s_ContainsOp (G : D → D → Option D) : Spec := { f := 62, ps := [103, 23], rs := [.dat 4], run := fun ds => match ds with | [a, b] => G a b | _ => none }
noncomputable def s_step (G : D → D → Option D) : Spec := { f := 34, ps := [28, 103], rs := [.dat 4], run := fun ds => match ds with | [a, b] => G a b | _ => none }
noncomputable def s_filter (G : D → D → Option D) : Spec := { f := 32, ps := [28, 26], rs := [.dat 28], run := fun ds => match ds with | [a, b] => G a b | _ => none }
noncomputable def s_ConcatT (G : D → Option D) : Spec := { f := 33, ps := [101], rs := [.dat 26], run := fun ds => match ds with | [a] => G a | _ => none }
noncomputable def s_ConcatI (G : D → Option D) : Spec := { f := 39, ps := [109], rs := [.dat 25], run := fun ds => match ds with | [a] => G a | _ => none }
noncomputable def s_CloneI (G : D → Option D) : Spec := { f := 40, ps := [25], rs := [.dat 25], run := fun ds => match ds with | [a] => G a | _ => none }
noncomputable def s_replaced (G : D → D → D → Option D) : Spec := { f := 37, ps := [28, 3, 28], rs := [.dat 28], run := fun ds => match ds with | [a, b, c] => G a b c | _ => none }
noncomputable def s_slots (G : D → Option D) : Spec := { f := 36, ps := [26], rs := [.dat 25], run := fun ds => match ds with | [a] => G a | _ => none }
noncomputable def s_bound (G : D → D → Option D) : Spec := { f := 30, ps := [66, 28], rs := [.own 4], run := fun ds => match ds with | [a, b] => G a b | _ => none }
noncomputable def s_Bound (G : D → D → Option D) : Spec := { f := 11, ps := [28, 34], rs := [.dat 53, .dat 54], run := fun ds => match ds with | [a, b] => G a b | _ => none }
noncomputable def s_knows (G : D → D → D → Option D) : Spec := { f := 35, ps := [58, 28, 25], rs := [.dat 4], run := fun ds => match ds with | [a, b, c] => G a b c | _ => none }
noncomputable def s_touches (G : D → D → D → D → Option D) : Spec := { f := 38, ps := [58, 28, 3, 3], rs := [.dat 4], run := fun ds => match ds with | [a, b, c, d] => G a b c d | _ => none }
noncomputable def s_split (G : D → D → Option D) : Spec := { f := 12, ps := [58, 28], rs := [.dat 28, .dat 4], run := fun ds => match ds with | [a, b] => G a b | _ => none }
noncomputable def s_merge (G : D → D → Option D) : Spec := { f := 13, ps := [58, 28], rs := [.dat 28, .dat 4], run := fun ds => match ds with | [a, b] => G a b | _ => none }
noncomputable def s_down (G : D → D → Option D) : Spec := { f := 14, ps := [58, 28], rs := [.dat 28, .dat 4], run := fun ds => match ds with | [a, b] => G a b | _ => none }
noncomputable def s_sides (G : D → D → Option D) : Spec := { f := 15, ps := [58, 28], rs := [.dat 28, .dat 4], run := fun ds => match ds with | [a, b] => G a b | _ => none }
noncomputable def s_turn (G : D → D → Option D) : Spec := { f := 16, ps := [58, 28], rs := [.dat 28, .dat 4], run := fun ds => match ds with | [a, b] => G a b | _ => none }
noncomputable def s_drop (G : D → D → Option D) : Spec := { f := 17, ps := [58, 28], rs := [.dat 28, .dat 4], run := fun ds => match ds with | [a, b] => G a b | _ => none }
noncomputable def s_chain (G : D → D → Option D) : Spec := { f := 18, ps := [58, 28], rs := [.dat 28, .dat 4], run := fun ds => match ds with | [a, b] => G a b | _ => none }
noncomputable def s_meet (G : D → D → Option D) : Spec := { f := 19, ps := [58, 28], rs := [.dat 28, .dat 4], run := fun ds => match ds with | [a, b] => G a b | _ => none }
noncomputable def s_more (G : D → D → Option D) : Spec := { f := 20, ps := [58, 28], rs := [.dat 28, .dat 4], run := fun ds => match ds with | [a, b] => G a b | _ => none }
noncomputable def s_one (G : D → D → Option D) : Spec := { f := 21, ps := [58, 28], rs := [.dat 28, .dat 4], run := fun ds => match ds with | [a, b] => G a b | _ => none }
noncomputable def s_Apply (G : D → D → D → Option D) : Spec := { f := 6, ps := [22, 28, 34], rs := [.dat 28, .dat 4], run := fun ds => match ds with | [a, b, c] => G a b c | _ => none }
noncomputable def s_ContainsR (G : D → D → Option D) : Spec := { f := 27, ps := [61, 22], rs := [.dat 4], run := fun ds => match ds with | [a, b] => G a b | _ => none }
noncomputable def s_first (G : D → D → D → Option D) : Spec := { f := 28, ps := [28, 34, 61], rs := [.dat 28, .dat 4], run := fun ds => match ds with | [a, b, c] => G a b c | _ => none }
noncomputable def s_Rewrite (G : D → D → D → Option D) : Spec := { f := 9, ps := [28, 34, 61], rs := [.dat 28, .dat 3], run := fun ds => match ds with | [a, b, c] => G a b c | _ => none }
noncomputable def s_SameTerm (G : D → D → Option D) : Spec := { f := 50, ps := [52, 52], rs := [.dat 4], run := fun ds => match ds with | [a, b] => G a b | _ => none }
noncomputable def s_SameTerms (G : D → D → Option D) : Spec := { f := 26, ps := [26, 26], rs := [.dat 4], run := fun ds => match ds with | [a, b] => G a b | _ => none }
noncomputable def s_SamePlan (G : D → D → Option D) : Spec := { f := 8, ps := [28, 28], rs := [.dat 4], run := fun ds => match ds with | [a, b] => G a b | _ => none }
noncomputable def s_terms (G : D → D → Option D) : Spec := { f := 10, ps := [52, 3], rs := [.dat 3], run := fun ds => match ds with | [a, b] => G a b | _ => none }
noncomputable def s_Parts (G : D → D → Option D) : Spec := { f := 5, ps := [28, 3], rs := [.dat 3], run := fun ds => match ds with | [a, b] => G a b | _ => none }
noncomputable def s_head (G : Option D) : Spec := { f := 4, ps := [], rs := [.dat 4], run := fun ds => match ds with | [] => G | _ => none }
noncomputable def s_Union (G : D → D → Option D) : Spec := { f := 85, ps := [25, 25], rs := [.dat 25], run := fun ds => match ds with | [a, b] => G a b | _ => none }
noncomputable def s_rSlots (G : D → Option D) : Spec := { f := 82, ps := [52], rs := [.dat 25], run := fun ds => match ds with | [a] => G a | _ => none }
noncomputable def s_rSafe (G : D → Option D) : Spec := { f := 71, ps := [52], rs := [.dat 4], run := fun ds => match ds with | [a] => G a | _ => none }
noncomputable def s_AllSafe (G : D → Option D) : Spec := { f := 43, ps := [26], rs := [.dat 4], run := fun ds => match ds with | [a] => G a | _ => none }
noncomputable def s_rEnds (G : D → D → Option D) : Spec := { f := 48, ps := [77, 4], rs := [.dat 3, .dat 3], run := fun ds => match ds with | [a, b] => G a b | _ => none }
noncomputable def s_rone (G : D → D → D → Option D) : Spec := { f := 68, ps := [28, 34, 53], rs := [.dat 3], run := fun ds => match ds with | [a, b, c] => G a b c | _ => none }
noncomputable def s_rmeets (G : D → D → D → Option D) : Spec := { f := 69, ps := [28, 34, 53], rs := [.dat 4], run := fun ds => match ds with | [a, b, c] => G a b c | _ => none }
noncomputable def s_rBinds (G : D → D → Option D) : Spec := { f := 70, ps := [53, 52], rs := [.dat 4], run := fun ds => match ds with | [a, b] => G a b | _ => none }
noncomputable def s_rbound (G : D → D → Option D) : Spec := { f := 42, ps := [28, 34], rs := [.own 4], run := fun ds => match ds with | [a, b] => G a b | _ => none }
noncomputable def s_Pattern (G : D → Option D) : Spec := { f := 41, ps := [34], rs := [.dat 4], run := fun ds => match ds with | [a] => G a | _ => none }
noncomputable def s_rBound (G : D → D → Option D) : Spec := { f := 22, ps := [28, 34], rs := [.dat 53, .dat 54], run := fun ds => match ds with | [a, b] => G a b | _ => none }
noncomputable def s_rfilter (G : D → D → Option D) : Spec := { f := 44, ps := [28, 26], rs := [.dat 28], run := fun ds => match ds with | [a, b] => G a b | _ => none }
noncomputable def s_Binds14 (G : D → D → D → Option D) : Spec := { f := 45, ps := [28, 34, 26], rs := [.dat 4], run := fun ds => match ds with | [a, b, c] => G a b c | _ => none }
noncomputable def s_over (G : D → D → Option D) : Spec := { f := 46, ps := [28, 28], rs := [.dat 28], run := fun ds => match ds with | [a, b] => G a b | _ => none }
noncomputable def s_rknows (G : D → D → D → Option D) : Spec := { f := 47, ps := [28, 34, 3], rs := [.dat 4], run := fun ds => match ds with | [a, b, c] => G a b c | _ => none }
noncomputable def s_rtouches (G : D → D → D → D → Option D) : Spec := { f := 49, ps := [28, 34, 3, 3], rs := [.dat 4], run := fun ds => match ds with | [a, b, c, d] => G a b c d | _ => none }
noncomputable def s_filters (G : D → D → D → Option D) : Spec := { f := 23, ps := [22, 28, 34], rs := [.dat 28, .dat 4], run := fun ds => match ds with | [a, b, c] => G a b c | _ => none }
noncomputable def s_joins (G : D → D → D → Option D) : Spec := { f := 24, ps := [22, 28, 34], rs := [.dat 28, .dat 4], run := fun ds => match ds with | [a, b, c] => G a b c | _ => none }
noncomputable def s_meets14 (G : D → D → D → Option D) : Spec := { f := 25, ps := [22, 28, 34], rs := [.dat 28, .dat 4], run := fun ds => match ds with | [a, b, c] => G a b c | _ => none }
noncomputable def s_rApply (G : D → D → D → Option D) : Spec := { f := 7, ps := [22, 28, 34], rs := [.dat 28, .dat 4], run := fun ds => match ds with | [a, b, c] => G a b c | _ => none }
noncomputable def s_RulesApply (G : D → D → D → Option D) : Spec := { f := 3, ps := [22, 28, 34], rs := [.dat 4], run := fun ds => match ds with | [a, b, c] => G a b c | _ => none }
end Go.Ev.S
