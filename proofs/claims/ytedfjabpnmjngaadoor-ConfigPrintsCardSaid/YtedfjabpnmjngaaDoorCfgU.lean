/- ConfigPrints: the walk. -/
import Derived.Test.YtedfjabpnmjngaaDoorCfgS
set_option linter.unusedSimpArgs false
set_option linter.unusedVariables false
namespace Go.Proofs.Tryd
open Go Go.AM

def keptChk : Option (AV × Heap) → Option Cell
  | some (.bool true, H') => if 1 ≤ H'.next then some (H'.objs 0) else none
  | _ => none
theorem known_chk (cs : List AV) : keptChk (callA Tryd.prog noHints prims 60 7 [] (H0.new (.cells cs))) = some (.cells cs) := by kernel_rfl
theorem known_at (cs : List AV) : ∃ H', Runs Tryd.prog noHints prims 7 [] (H0.new (.cells cs)) (.bool true) H' ∧ H'.objs H0.next = .cells cs ∧ H0.next < H'.next := by
  have h := known_chk cs
  cases hc : callA Tryd.prog noHints prims 60 7 [] (H0.new (.cells cs)) with
  | none => rw [hc] at h; cases h
  | some q =>
    obtain ⟨v, H'⟩ := q
    rw [hc] at h
    cases v with
    | bool b => cases b with
      | true =>
        simp only [keptChk] at h
        split at h
        · rename_i hn
          have e : H'.objs 0 = .cells cs := by simpa using h
          refine ⟨H', runs_made _ _ _ hc, e, ?_⟩
          show 0 < H'.next
          omega
        · cases h
      | false => cases h
    | _ => cases h
theorem good_nums (c : Cfg) : Nums (goodCfg c) := by
  have := Int.emod_nonneg c.w (by omega : (500 : Int) ≠ 0)
  have := Int.emod_lt_of_pos c.w (by omega : (0 : Int) < 500)
  have := Int.emod_nonneg c.st (by omega : (10 : Int) ≠ 0)
  have := Int.emod_lt_of_pos c.st (by omega : (0 : Int) < 10)
  have := Int.emod_nonneg c.em (by omega : (21 : Int) ≠ 0)
  have := Int.emod_lt_of_pos c.em (by omega : (0 : Int) < 21)
  have := Int.emod_nonneg c.de (by omega : (50 : Int) ≠ 0)
  have := Int.emod_lt_of_pos c.de (by omega : (0 : Int) < 50)
  intro j hj
  match j, hj with
  | 0, _ => show 0 ≤ 1 + c.w % 500 ∧ 1 + c.w % 500 ≤ 500; omega
  | 1, _ => show 0 ≤ 1 + c.st % 10 ∧ 1 + c.st % 10 ≤ 500; omega
  | 2, _ => show 0 ≤ c.em % 21 ∧ c.em % 21 ≤ 500; omega
  | 3, _ => show 0 ≤ 1 + c.de % 50 ∧ 1 + c.de % 50 ≤ 500; omega
theorem good_ok (c : Cfg) : okCfg (goodCfg c) = true := by
  have := Int.emod_nonneg c.w (by omega : (500 : Int) ≠ 0)
  have := Int.emod_lt_of_pos c.w (by omega : (0 : Int) < 500)
  have := Int.emod_nonneg c.st (by omega : (10 : Int) ≠ 0)
  have := Int.emod_lt_of_pos c.st (by omega : (0 : Int) < 10)
  have := Int.emod_nonneg c.em (by omega : (21 : Int) ≠ 0)
  have := Int.emod_lt_of_pos c.em (by omega : (0 : Int) < 21)
  have := Int.emod_nonneg c.de (by omega : (50 : Int) ≠ 0)
  have := Int.emod_lt_of_pos c.de (by omega : (0 : Int) < 50)
  simp only [okCfg, Bool.and_eq_true, decide_eq_true_eq]
  simp only [goodCfg]
  omega

set_option maxHeartbeats 8000000 in
theorem prints_runs (c : Cfg) (hc : c.on.length = 10) : ∃ v H', Runs Tryd.prog noHints prims 6 [.agg c.cells] H0 v H' ∧ v = .bool true := by
  refine runs_of Tryd.prog noHints prims 31 [.tmp 2] func6 rfl rfl rfl rfl rfl rfl ?_
  obtain ⟨K, hkn, ho, hnx⟩ := known_at c.cells
  have cl : c.cells.length = 14 := Cfg.len hc
  obtain ⟨v1, H1, hr1, rfl, hG1⟩ := good_runs c hc K
  generalize hg : goodCfg c = d at hr1
  have dl : d.on.length = 10 := by rw [← hg]; simp [goodCfg, hc]
  have dcl : d.cells.length = 14 := Cfg.len dl
  have hnum : Nums d := by rw [← hg]; exact good_nums c
  have h0 : d.on.getD 0 false = false := by
    rw [← hg]
    show (c.on.set 0 false).getD 0 false = false
    rw [List.getD_eq_getElem?_getD, List.getElem?_set_self (by omega)]
    rfl
  have hpp := print_parse d dl h0 hnum (by rw [← hg]; exact good_ok c)
  have z1 : (H1.new (.cells zeroCfg.cells)).objs H1.next = .cells zeroCfg.cells := by rw [new_objs, if_pos rfl]
  have st1 := storeA_agg (P := Tryd.prog) (t := 28) (vs := d.cells) z1 (by rw [dcl]; exact sz28) (by rw [dcl]; rfl)
  generalize hK1 : (H1.new (.cells zeroCfg.cells)).set H1.next (.cells d.cells) = K1 at st1
  have o1 : K1.objs H1.next = .cells d.cells := by rw [← hK1, set_objs, if_pos rfl]
  have n1 : H1.next < K1.next := by rw [← hK1, set_next, new_next]; omega
  obtain ⟨v2, H2, hr2, rfl, hG2⟩ := print_runs d dl hnum K1
  obtain ⟨v3, H3, hr3, rfl, hG3⟩ := parse_runs (tx (printL d)) H2
  unfold parseV at hr3
  rw [hpp] at hr3
  have z3 : (H3.new (.cells zeroCfg.cells)).objs H3.next = .cells zeroCfg.cells := by rw [new_objs, if_pos rfl]
  have st3 := storeA_agg (P := Tryd.prog) (t := 28) (vs := d.cells) z3 (by rw [dcl]; exact sz28) (by rw [dcl]; rfl)
  generalize hK3 : (H3.new (.cells zeroCfg.cells)).set H3.next (.cells d.cells) = K3 at st3
  have hG : Gr K1 H3 := hG2.trans hG3
  have n3 : H1.next < H3.next := Nat.lt_of_lt_of_le n1 hG.next
  have o3 : K3.objs H3.next = .cells d.cells := by rw [← hK3, set_objs, if_pos rfl]
  have o13 : K3.objs H1.next = .cells d.cells := by rw [← hK3, set_objs, if_neg (by omega), new_objs, if_neg (by omega), hG.objs _ n1, o1]
  have n33 : H3.next < K3.next := by rw [← hK3, set_next, new_next]; omega
  obtain ⟨v4, H4, hr4, rfl, hG4⟩ := rprint_runs d dl hnum K3
  have o4 : H4.objs H3.next = .cells d.cells := by rw [hG4.objs _ n33, o3]
  have o14 : H4.objs H1.next = .cells d.cells := by rw [hG4.objs _ (by omega), o13]
  have q2 : K1.objs H1.next = .cells d.cells := o1
  simp only [↓wpC_skip, ↓wpC_label, ↓wpC_seq, ↓wpC_cond, ↓wpC_block, ↓wpC_exit, ↓wpC_goto, ↓wpC_ret, ↓wpC_region, ↓wpC_draw, ↓wpC_loop, ↓wpC_scope, ↓wpR_nil, ↓wpR_cons, ↓wpR_guard, ↓wpD_box, ↓wpL_nil, ↓wpL_cons, ↓wpL_guard, ↓wpD_move, ↓wpD_assign, ↓wpD_pick, ↓wpD_binOp, ↓wpD_unOp, ↓wpD_builtin, ↓wpD_index, ↓wpD_indexAddr, ↓wpD_convert, ↓wpD_alloc, ↓wpD_load, ↓wpD_store, ↓wpD_nilCheck, ↓wpD_makeInterface, ↓wpD_makeFunc, ↓wpD_makeMap, ↓wpD_slice, ↓wpD_fieldAddr, ↓wpD_field, ↓wpD_lookup, ↓wpD_mapUpdate, ↓wpD_typeAssert, ↓wpD_extract, ↓wpD_range, ↓wpD_next, ↓wpD_build, ↓wpD_buildSlice, ↓wpD_call, ↓wpD_callv, Bd_some, Gd_true, Gd_false, seqK_normal, seqK_exit, seqK_goto, seqK_ret, blockK_normal, blockK_same, blockK_ne, blockK_goto, blockK_ret, dstOk_some, dstOk_none, Nat.reduceLT, true_and, dstAt_zero, dstAt_succ, putO_none, putO_some, ev_tm, ev_int, ev_bool, ev_str, ev_func, ev_nilptr, ev_nilslice, ev_nilmap, upd_at, Nat.reduceEqDiff, if_true, if_false, Option.bind_some, Option.map_some, boolOf_bool, noHints_freeze, noHints_heap, moveA_false, pickA_true, pickA_false, argsE_eq, partsA_eq, partsE, List.mapM_cons, List.mapM_nil, Option.pure_def, Option.bind_eq_bind, optA_none, optA_some, builtinA_len, builtinA_append, binOpA_lss, binOpA_leq, binOpA_gtr, binOpA_geq, binOpA_eql, binOpA_neq, binOpA_add, binOpA_sub, binOpA_mul, binOpA_seql, binOpA_sneq, unOpA_not, natOf_nat, natOf_int, Int.reduceLE, Int.reduceToNat, boundA_int, new_next, set_next, new_objs, set_objs, flat_int, flat_bool, flat_str, flat_agg, extractA_tuple, boundA_none, loadA_rptr, List.getElem?_cons_zero, List.getElem?_cons_succ, List.getD_cons_zero, List.getD_cons_succ, Nat.reduceBEq, Int.reduceBEq, Int.reduceBNe, Int.reduceLT, eq_self, Bool.false_eq_true, decide_true, decide_false, beqT, beqF, Gd_not, resE_one, resE_two, Bool.not_true, Bool.not_false, decide_true, decide_false, beq_self_eq_true, List.toList_toArray, wpCall_eq hkn, loadA_cells ho, take28 cl, wpCall_eq hr1, zero28, st1, loadA_cells o1, take28 dcl, wpCall_eq hr2, wpCall_eq hr3, st3, loadA_cells o13, wpCall_eq hr4, loadA_cells o4, loadA_cells o14, eq28 _ _ d dl]
end Go.Proofs.Tryd
