/- row, Digits, Good. -/
import Derived.Test.YtedfjabpnmjngaaDoorCfgO
set_option linter.unusedSimpArgs false
set_option linter.unusedVariables false
namespace Go.Proofs.Tryd
open Go Go.AM

theorem join2 (a b sep : List UInt8) : Lib.join [a, b] sep = a ++ sep ++ b := by
  simp [Lib.join, List.intercalate, List.intersperse]
theorem row_runs (a b : List UInt8) (h : a.length + b.length ≤ 1000) (H : Heap) : Runs Tryd.prog noHints prims 24 [.slice .full 1 [.str (tx a), .str (tx b)] 2] H (.str (tx (a ++ [32] ++ b ++ [10]))) H := by
  have key : ∃ v H', Runs Tryd.prog noHints prims 24 [.slice .full 1 [.str (tx a), .str (tx b)] 2] H v H' ∧ (v = .str (tx (a ++ [32] ++ b ++ [10])) ∧ H' = H) := by
    refine runs_of Tryd.prog noHints prims 6 [.tmp 2] func24 rfl rfl rfl rfl rfl rfl ?_
    have hr : Runs Tryd.prog noHints prims 38 [.slice .full 1 [.str (tx a), .str (tx b)] 2, .str ⟨#[32]⟩] H (.str (tx (a ++ [32] ++ b))) H := runs_prim (p := pJoin) rfl (by
      simp only [pJoin, strsOf, Option.map_some, List.map_cons, List.map_nil, tx_data, join2]
      rw [if_pos ⟨rfl, by omega, by simp; omega, by omega⟩]
      rfl)
    have c1 : ∀ ox oy, binOpA Tryd.prog .add 9 ox oy (.str (tx (a ++ [32] ++ b))) (.str ⟨#[10]⟩) = some (.str (tx (a ++ [32] ++ b ++ [10]))) := fun ox oy => sadd (b := [10]) ox oy (by simp; omega)
    simp only [↓wpC_skip, ↓wpC_label, ↓wpC_seq, ↓wpC_cond, ↓wpC_block, ↓wpC_exit, ↓wpC_goto, ↓wpC_ret, ↓wpC_region, ↓wpC_draw, ↓wpC_loop, ↓wpC_scope, ↓wpR_nil, ↓wpR_cons, ↓wpR_guard, ↓wpD_box, ↓wpL_nil, ↓wpL_cons, ↓wpL_guard, ↓wpD_move, ↓wpD_assign, ↓wpD_pick, ↓wpD_binOp, ↓wpD_unOp, ↓wpD_builtin, ↓wpD_index, ↓wpD_indexAddr, ↓wpD_convert, ↓wpD_alloc, ↓wpD_load, ↓wpD_store, ↓wpD_nilCheck, ↓wpD_makeInterface, ↓wpD_makeFunc, ↓wpD_makeMap, ↓wpD_slice, ↓wpD_fieldAddr, ↓wpD_field, ↓wpD_lookup, ↓wpD_mapUpdate, ↓wpD_typeAssert, ↓wpD_extract, ↓wpD_range, ↓wpD_next, ↓wpD_build, ↓wpD_buildSlice, ↓wpD_call, ↓wpD_callv, Bd_some, Gd_true, Gd_false, seqK_normal, seqK_exit, seqK_goto, seqK_ret, blockK_normal, blockK_same, blockK_ne, blockK_goto, blockK_ret, dstOk_some, dstOk_none, Nat.reduceLT, true_and, dstAt_zero, dstAt_succ, putO_none, putO_some, ev_tm, ev_int, ev_bool, ev_str, ev_func, ev_nilptr, ev_nilslice, ev_nilmap, upd_at, Nat.reduceEqDiff, if_true, if_false, Option.bind_some, Option.map_some, boolOf_bool, noHints_freeze, noHints_heap, moveA_false, pickA_true, pickA_false, argsE_eq, partsA_eq, partsE, List.mapM_cons, List.mapM_nil, Option.pure_def, Option.bind_eq_bind, optA_none, optA_some, builtinA_len, builtinA_append, binOpA_lss, binOpA_leq, binOpA_gtr, binOpA_geq, binOpA_eql, binOpA_neq, binOpA_add, binOpA_sub, binOpA_mul, binOpA_seql, binOpA_sneq, unOpA_not, natOf_nat, natOf_int, Int.reduceLE, Int.reduceToNat, boundA_int, new_next, set_next, new_objs, set_objs, flat_int, flat_bool, flat_str, flat_agg, extractA_tuple, boundA_none, loadA_rptr, List.getElem?_cons_zero, List.getElem?_cons_succ, List.getD_cons_zero, List.getD_cons_succ, Nat.reduceBEq, Int.reduceBEq, Int.reduceBNe, Int.reduceLT, eq_self, Bool.false_eq_true, decide_true, decide_false, beqT, beqF, Gd_not, resE_one, resE_two, Bool.not_true, Bool.not_false, decide_true, decide_false, beq_self_eq_true, List.toList_toArray, wpCall_eq hr, c1]
  obtain ⟨v, H', h, rfl, rfl⟩ := key
  exact h

/- DIGITS -/
def digF : Nat → Nat → List UInt8
  | 0, n => [UInt8.ofNat (48 + n)]
  | k + 1, n => if n < 10 then [UInt8.ofNat (48 + n)] else digF k (n / 10) ++ [UInt8.ofNat (48 + n % 10)]
theorem digF_len : ∀ k n, (digF k n).length ≤ k + 1
  | 0, n => by simp [digF]
  | k + 1, n => by
    have := digF_len k (n / 10)
    unfold digF
    split
    · simp
    · simp; omega
theorem one_runs (n : Nat) (h : n < 10) (H : Heap) : Runs Tryd.prog noHints prims 29 [.int .i64 n] H (.str (tx [UInt8.ofNat (48 + n)])) H := by
  have key : ∃ v H', Runs Tryd.prog noHints prims 29 [.int .i64 n] H v H' ∧ (v = .str (tx [UInt8.ofNat (48 + n)]) ∧ H' = H) := by
    refine runs_of Tryd.prog noHints prims 23 [.tmp 2] func29 rfl rfl rfl rfl rfl rfl ?_
    have e1 : decide ((n : Int) < 0) = false := by simp
    have e2 : decide ((10 : Int) ≤ (n : Int)) = false := by simp; omega
    have hw2 : IntKind.i64.wrap (48 + (n : Int)) = ((48 + n : Nat) : Int) := by rw [w64 (by omega) (by omega)]; omega
    have hw3 : IntKind.u8.wrap ((48 + n : Nat) : Int) = ((48 + n : Nat) : Int) := w8 (by omega) (by omega)
    simp only [↓wpC_skip, ↓wpC_label, ↓wpC_seq, ↓wpC_cond, ↓wpC_block, ↓wpC_exit, ↓wpC_goto, ↓wpC_ret, ↓wpC_region, ↓wpC_draw, ↓wpC_loop, ↓wpC_scope, ↓wpR_nil, ↓wpR_cons, ↓wpR_guard, ↓wpD_box, ↓wpL_nil, ↓wpL_cons, ↓wpL_guard, ↓wpD_move, ↓wpD_assign, ↓wpD_pick, ↓wpD_binOp, ↓wpD_unOp, ↓wpD_builtin, ↓wpD_index, ↓wpD_indexAddr, ↓wpD_convert, ↓wpD_alloc, ↓wpD_load, ↓wpD_store, ↓wpD_nilCheck, ↓wpD_makeInterface, ↓wpD_makeFunc, ↓wpD_makeMap, ↓wpD_slice, ↓wpD_fieldAddr, ↓wpD_field, ↓wpD_lookup, ↓wpD_mapUpdate, ↓wpD_typeAssert, ↓wpD_extract, ↓wpD_range, ↓wpD_next, ↓wpD_build, ↓wpD_buildSlice, ↓wpD_call, ↓wpD_callv, Bd_some, Gd_true, Gd_false, seqK_normal, seqK_exit, seqK_goto, seqK_ret, blockK_normal, blockK_same, blockK_ne, blockK_goto, blockK_ret, dstOk_some, dstOk_none, Nat.reduceLT, true_and, dstAt_zero, dstAt_succ, putO_none, putO_some, ev_tm, ev_int, ev_bool, ev_str, ev_func, ev_nilptr, ev_nilslice, ev_nilmap, upd_at, Nat.reduceEqDiff, if_true, if_false, Option.bind_some, Option.map_some, boolOf_bool, noHints_freeze, noHints_heap, moveA_false, pickA_true, pickA_false, argsE_eq, partsA_eq, partsE, List.mapM_cons, List.mapM_nil, Option.pure_def, Option.bind_eq_bind, optA_none, optA_some, builtinA_len, builtinA_append, binOpA_lss, binOpA_leq, binOpA_gtr, binOpA_geq, binOpA_eql, binOpA_neq, binOpA_add, binOpA_sub, binOpA_mul, binOpA_seql, binOpA_sneq, unOpA_not, natOf_nat, natOf_int, Int.reduceLE, Int.reduceToNat, boundA_int, new_next, set_next, new_objs, set_objs, flat_int, flat_bool, flat_str, flat_agg, extractA_tuple, boundA_none, loadA_rptr, List.getElem?_cons_zero, List.getElem?_cons_succ, List.getD_cons_zero, List.getD_cons_succ, Nat.reduceBEq, Int.reduceBEq, Int.reduceBNe, Int.reduceLT, eq_self, Bool.false_eq_true, decide_true, decide_false, beqT, beqF, Gd_not, resE_one, resE_two, Bool.not_true, Bool.not_false, decide_true, decide_false, beq_self_eq_true, List.toList_toArray, e1, e2, hw2, convertA_int ck35 isS3 und5, hw3, build37, conv379, Int.toNat_natCast]
  obtain ⟨v, H', h, rfl, rfl⟩ := key
  exact h
theorem digits_runs : ∀ (k n : Nat), k ≤ 6 → n < 10 ^ (k + 1) → ∀ H, Runs Tryd.prog noHints prims 29 [.int .i64 n] H (.str (tx (digF k n))) H
  | 0, n, _, h, H => one_runs n (by simpa using h) H
  | k + 1, n, hk, h, H => by
    by_cases hn : n < 10
    · have := one_runs n hn H
      rw [digF, if_pos hn]
      exact this
    · have hp : (10 : Nat) ^ (k + 1 + 1) ≤ 10 ^ 8 := Nat.pow_le_pow_right (by omega) (by omega)
      have hn8 : n < 100000000 := Nat.lt_of_lt_of_le h hp
      have hdiv : n / 10 < 10 ^ (k + 1) := by
        rw [Nat.div_lt_iff_lt_mul (by omega)]
        rw [Nat.pow_succ] at h
        exact h
      have key : ∃ v H', Runs Tryd.prog noHints prims 29 [.int .i64 n] H v H' ∧ (v = .str (tx (digF (k + 1) n)) ∧ H' = H) := by
        refine runs_of Tryd.prog noHints prims 23 [.tmp 2] func29 rfl rfl rfl rfl rfl rfl ?_
        have e1 : decide ((n : Int) < 0) = false := by simp
        have e2 : decide ((10 : Int) ≤ (n : Int)) = true := by simp; omega
        have hq : IntKind.i64.wrap ((n : Int).tdiv 10) = ((n / 10 : Nat) : Int) := by
          have : (n : Int).tdiv 10 = ((n / 10 : Nat) : Int) := by rw [Int.tdiv_eq_ediv_of_nonneg (by omega)]; omega
          rw [this, w64 (by omega) (by omega)]
        have hm : (n : Int).tmod 10 = ((n % 10 : Nat) : Int) := by rw [Int.tmod_eq_emod_of_nonneg (by omega)]; omega
        have hl := digF_len k (n / 10)
        have c1 : ∀ ox oy, binOpA Tryd.prog .add 9 ox oy (.str (tx (digF k (n / 10)))) (.str (tx [UInt8.ofNat (48 + n % 10)])) = some (.str (tx (digF k (n / 10) ++ [UInt8.ofNat (48 + n % 10)]))) := fun ox oy => sadd ox oy (by simp; omega)
        have hF : digF (k + 1) n = digF k (n / 10) ++ [UInt8.ofNat (48 + n % 10)] := by rw [digF, if_neg hn]
        simp only [↓wpC_skip, ↓wpC_label, ↓wpC_seq, ↓wpC_cond, ↓wpC_block, ↓wpC_exit, ↓wpC_goto, ↓wpC_ret, ↓wpC_region, ↓wpC_draw, ↓wpC_loop, ↓wpC_scope, ↓wpR_nil, ↓wpR_cons, ↓wpR_guard, ↓wpD_box, ↓wpL_nil, ↓wpL_cons, ↓wpL_guard, ↓wpD_move, ↓wpD_assign, ↓wpD_pick, ↓wpD_binOp, ↓wpD_unOp, ↓wpD_builtin, ↓wpD_index, ↓wpD_indexAddr, ↓wpD_convert, ↓wpD_alloc, ↓wpD_load, ↓wpD_store, ↓wpD_nilCheck, ↓wpD_makeInterface, ↓wpD_makeFunc, ↓wpD_makeMap, ↓wpD_slice, ↓wpD_fieldAddr, ↓wpD_field, ↓wpD_lookup, ↓wpD_mapUpdate, ↓wpD_typeAssert, ↓wpD_extract, ↓wpD_range, ↓wpD_next, ↓wpD_build, ↓wpD_buildSlice, ↓wpD_call, ↓wpD_callv, Bd_some, Gd_true, Gd_false, seqK_normal, seqK_exit, seqK_goto, seqK_ret, blockK_normal, blockK_same, blockK_ne, blockK_goto, blockK_ret, dstOk_some, dstOk_none, Nat.reduceLT, true_and, dstAt_zero, dstAt_succ, putO_none, putO_some, ev_tm, ev_int, ev_bool, ev_str, ev_func, ev_nilptr, ev_nilslice, ev_nilmap, upd_at, Nat.reduceEqDiff, if_true, if_false, Option.bind_some, Option.map_some, boolOf_bool, noHints_freeze, noHints_heap, moveA_false, pickA_true, pickA_false, argsE_eq, partsA_eq, partsE, List.mapM_cons, List.mapM_nil, Option.pure_def, Option.bind_eq_bind, optA_none, optA_some, builtinA_len, builtinA_append, binOpA_lss, binOpA_leq, binOpA_gtr, binOpA_geq, binOpA_eql, binOpA_neq, binOpA_add, binOpA_sub, binOpA_mul, binOpA_seql, binOpA_sneq, unOpA_not, natOf_nat, natOf_int, Int.reduceLE, Int.reduceToNat, boundA_int, new_next, set_next, new_objs, set_objs, flat_int, flat_bool, flat_str, flat_agg, extractA_tuple, boundA_none, loadA_rptr, List.getElem?_cons_zero, List.getElem?_cons_succ, List.getD_cons_zero, List.getD_cons_succ, Nat.reduceBEq, Int.reduceBEq, Int.reduceBNe, Int.reduceLT, eq_self, Bool.false_eq_true, decide_true, decide_false, beqT, beqF, Gd_not, resE_one, resE_two, Bool.not_true, Bool.not_false, decide_true, decide_false, beq_self_eq_true, List.toList_toArray, e1, e2, binOpA_quo (hy := (by decide : (10 : Int) ≠ 0)), hq, binOpA_rem (hy := (by decide : (10 : Int) ≠ 0)), hm, wpCall_eq (digits_runs k (n / 10) (by omega) hdiv H), wpCall_eq (one_runs (n % 10) (by omega) H), c1, hF]
      obtain ⟨v, H', h, rfl, rfl⟩ := key
      exact h

/- GOOD -/
def goodCfg (c : Cfg) : Cfg := ⟨c.on.set 0 false, 1 + c.w % 500, 1 + c.st % 10, c.em % 21, 1 + c.de % 50⟩
theorem ld_on {c : Cfg} (hc : c.on.length = 10) {i : Nat} (hi : i < 10) : takeVar Tryd.prog 4 (c.cells.drop (0 + 0 + i * 1)) = some (.bool (c.on.getD i false)) := by
  rw [takeVar_one ag4 sz4]
  refine head_drop ?_
  have : 0 + 0 + i * 1 = i := by omega
  rw [this]
  unfold Cfg.cells
  rw [List.getElem?_append_left (by simp [hc, hi]), List.getElem?_map]
  rw [List.getElem?_eq_getElem (by omega), List.getD_eq_getElem?_getD, List.getElem?_eq_getElem (by omega)]
  rfl
theorem box28 (c : Cfg) : (AV.agg c.cells).flat = some c.cells := rfl

theorem res12 {g : Regs} {H : Heap} {b n : Nat} {c : Cfg} {k : AV → Prop} (h2 : g 2 = .ptr b 0) (ho : H.objs b = .cells c.cells) (hl : c.cells.length = 14) (hk : k (.agg c.cells)) (hn : 2 < n := by omega) :
    Bd (resE Tryd.prog [.cell 2 28] n g H) k .mk := Bd_of (resE_1 (resA_cell hn h2 ho (take28 hl))) hk
set_option maxHeartbeats 8000000 in
theorem good_runs (c : Cfg) (hc : c.on.length = 10) (H : Heap) : ∃ v H', Runs Tryd.prog noHints prims 12 [.agg c.cells] H v H' ∧ (v = .agg (goodCfg c).cells ∧ Gr H H') := by
  refine runs_of Tryd.prog noHints prims 25 [.cell 2 28] func12 rfl rfl rfl rfl rfl rfl ?_
  have e1 : H.next + 1 ≠ H.next := by omega
  have e2 : H.next ≠ H.next + 1 := by omega
  have ho : ((H.new (Cell.cells c.cells)).new (Cell.cells zeroCfg.cells)).objs H.next = .cells c.cells := by simp [new_objs, new_next]
  have hst0 := storeA_one (P := Tryd.prog) (t := 4) (off := 0 + 0 + 0 * 1) ho sz4 (flat_bool false) (by rw [Cfg.len hc]; omega)
  rw [cells_set hc (by omega)] at hst0
  simp only [↓wpC_skip, ↓wpC_label, ↓wpC_seq, ↓wpC_cond, ↓wpC_block, ↓wpC_exit, ↓wpC_goto, ↓wpC_ret, ↓wpC_region, ↓wpC_draw, ↓wpC_loop, ↓wpC_scope, ↓wpR_nil, ↓wpR_cons, ↓wpR_guard, ↓wpD_box, ↓wpL_nil, ↓wpL_cons, ↓wpL_guard, ↓wpD_move, ↓wpD_assign, ↓wpD_pick, ↓wpD_binOp, ↓wpD_unOp, ↓wpD_builtin, ↓wpD_index, ↓wpD_indexAddr, ↓wpD_convert, ↓wpD_alloc, ↓wpD_load, ↓wpD_store, ↓wpD_nilCheck, ↓wpD_makeInterface, ↓wpD_makeFunc, ↓wpD_makeMap, ↓wpD_slice, ↓wpD_fieldAddr, ↓wpD_field, ↓wpD_lookup, ↓wpD_mapUpdate, ↓wpD_typeAssert, ↓wpD_extract, ↓wpD_range, ↓wpD_next, ↓wpD_build, ↓wpD_buildSlice, ↓wpD_call, ↓wpD_callv, Bd_some, Gd_true, Gd_false, seqK_normal, seqK_exit, seqK_goto, seqK_ret, blockK_normal, blockK_same, blockK_ne, blockK_goto, blockK_ret, dstOk_some, dstOk_none, Nat.reduceLT, true_and, dstAt_zero, dstAt_succ, putO_none, putO_some, ev_tm, ev_int, ev_bool, ev_str, ev_func, ev_nilptr, ev_nilslice, ev_nilmap, upd_at, Nat.reduceEqDiff, if_true, if_false, Option.bind_some, Option.map_some, boolOf_bool, noHints_freeze, noHints_heap, moveA_false, pickA_true, pickA_false, argsE_eq, partsA_eq, partsE, List.mapM_cons, List.mapM_nil, Option.pure_def, Option.bind_eq_bind, optA_none, optA_some, builtinA_len, builtinA_append, binOpA_lss, binOpA_leq, binOpA_gtr, binOpA_geq, binOpA_eql, binOpA_neq, binOpA_add, binOpA_sub, binOpA_mul, binOpA_seql, binOpA_sneq, unOpA_not, natOf_nat, natOf_int, Int.reduceLE, Int.reduceToNat, boundA_int, new_next, set_next, new_objs, set_objs, flat_int, flat_bool, flat_str, flat_agg, extractA_tuple, boundA_none, loadA_rptr, List.getElem?_cons_zero, List.getElem?_cons_succ, List.getD_cons_zero, List.getD_cons_succ, Nat.reduceBEq, Int.reduceBEq, Int.reduceBNe, Int.reduceLT, eq_self, Bool.false_eq_true, decide_true, decide_false, beqT, beqF, Gd_not, resE_one, resE_two, Bool.not_true, Bool.not_false, decide_true, decide_false, beq_self_eq_true, List.toList_toArray, zero28, fa, ia26 _ _ 0 (by omega), hst0]
  generalize hK : ((H.new (Cell.cells c.cells)).new (Cell.cells zeroCfg.cells)).set H.next (.cells ({ c with on := c.on.set 0 false } : Cfg).cells) = K
  have hKG : Gr H K := by rw [← hK]; exact (((Gr.refl H).new _).new _).set (Nat.le_refl _) _
  have hKo : K.objs H.next = .cells ({ c with on := c.on.set 0 false } : Cfg).cells := by rw [← hK, set_objs, if_pos rfl]
  have hKz : K.objs (H.next + 1) = .cells zeroCfg.cells := by rw [← hK, set_objs, if_neg e1, new_objs, new_next, if_pos rfl]
  have hKn : K.next = H.next + 2 := by rw [← hK, set_next, new_next, new_next]
  clear hK hst0 ho
  generalize hd : ({ c with on := c.on.set 0 false } : Cfg) = d at hKo
  have hdl : d.on.length = 10 := by rw [← hd]; simp [hc]
  have q : d.w = c.w ∧ d.st = c.st ∧ d.em = c.em ∧ d.de = c.de ∧ d.on = c.on.set 0 false := by rw [← hd]; exact ⟨rfl, rfl, rfl, rfl, rfl⟩
  clear hd
  have b1 : ∀ (x n : Int), 0 < n → n ≤ 1000 → IntKind.i64.wrap (1 + x % n) = 1 + x % n := fun x n h1 h2 => by
    have := Int.emod_nonneg x (by omega : n ≠ 0)
    have := Int.emod_lt_of_pos x h1
    exact w64 (by omega) (by omega)
  have s1 : ∀ (K : Heap) (d : Cfg) (k : Nat) (x : Int), d.on.length = 10 → (k = 10 ∨ k = 11 ∨ k = 12 ∨ k = 13) → K.objs H.next = .cells d.cells → storeA Tryd.prog 3 K (.ptr H.next (0 + k)) (.int .i64 x) = some (K.set H.next (.cells (setNum d k x).cells)) := fun K d k x hl hk ho => by
    rw [storeA_one ho sz3 (flat_int _ _) (by rw [Cfg.len hl]; omega), cells_num hl hk]
  have hl1 : ∀ (d : Cfg) (k : Nat) (x : Int), d.on.length = 10 → (setNum d k x).on.length = 10 := fun d k x h => by
    unfold setNum
    repeat' split
    all_goals exact h
  refine wpT_draw (ps := [(1, 0), (1, 1), (1, 2), (5, 0), (5, 1), (5, 2), (5, 3), (5, 4), (5, 5), (5, 6), (9, 0), (9, 1), (9, 2), (9, 3), (9, 4), (9, 5), (9, 6), (9, 7), (9, 8), (9, 9), (9, 10), (12, 0), (12, 1), (12, 2), (12, 3), (12, 4), (12, 5), (12, 6), (12, 7), (12, 8), (12, 9), (12, 10), (12, 11), (12, 12), (12, 13)])
    Tryd.prog noHints prims hfol (by kernel_rfl) (by kernel_rfl) (by kernel_rfl) ?_
  have w0 := s1 K d 10 (1 + d.w % 500) hdl (by omega) hKo
  have w1 := s1 _ _ 11 (1 + d.st % 10) (hl1 d 10 (1 + d.w % 500) hdl) (by omega) (show (K.set H.next (.cells (setNum d 10 (1 + d.w % 500)).cells)).objs H.next = _ by rw [set_objs, if_pos rfl])
  have w2 := s1 _ _ 12 (d.em % 21) (hl1 _ 11 (1 + d.st % 10) (hl1 d 10 (1 + d.w % 500) hdl)) (by omega) (show ((K.set H.next (.cells (setNum d 10 (1 + d.w % 500)).cells)).set H.next (.cells (setNum (setNum d 10 (1 + d.w % 500)) 11 (1 + d.st % 10)).cells)).objs H.next = _ by rw [set_objs, if_pos rfl])
  have w3 := s1 _ _ 13 (1 + d.de % 50) (hl1 _ 12 (d.em % 21) (hl1 _ 11 (1 + d.st % 10) (hl1 d 10 (1 + d.w % 500) hdl))) (by omega)
    (show (((K.set H.next (.cells (setNum d 10 (1 + d.w % 500)).cells)).set H.next (.cells (setNum (setNum d 10 (1 + d.w % 500)) 11 (1 + d.st % 10)).cells)).set H.next (.cells (setNum (setNum (setNum d 10 (1 + d.w % 500)) 11 (1 + d.st % 10)) 12 (d.em % 21)).cells)).objs H.next = _ by rw [set_objs, if_pos rfl])
  have hgood : setNum (setNum (setNum (setNum d 10 (1 + d.w % 500)) 11 (1 + d.st % 10)) 12 (d.em % 21)) 13 (1 + d.de % 50) = goodCfg c := by
    obtain ⟨q1, q2, q3, q4, q5⟩ := q
    simp only [setNum, goodCfg, q1, q2, q3, q4, q5]
    rfl
  rw [hgood] at w3
  have gl : (goodCfg c).cells.length = 14 := Cfg.len (by simp [goodCfg, hc])
  have hst9 : ∀ K : Heap, K.objs (H.next + 1) = .cells zeroCfg.cells → storeA Tryd.prog 28 K (.ptr (H.next + 1) 0) (.agg (goodCfg c).cells) = some (K.set (H.next + 1) (.cells (goodCfg c).cells)) := fun K h =>
    storeA_agg (vs := (goodCfg c).cells) h (by rw [gl]; exact sz28) (by rw [gl]; rfl)
  simp only [↓wpC_skip, ↓wpC_label, ↓wpC_seq, ↓wpC_cond, ↓wpC_block, ↓wpC_exit, ↓wpC_goto, ↓wpC_ret, ↓wpC_region, ↓wpC_draw, ↓wpC_loop, ↓wpC_scope, ↓wpR_nil, ↓wpR_cons, ↓wpR_guard, ↓wpD_box, ↓wpL_nil, ↓wpL_cons, ↓wpL_guard, ↓wpD_move, ↓wpD_assign, ↓wpD_pick, ↓wpD_binOp, ↓wpD_unOp, ↓wpD_builtin, ↓wpD_index, ↓wpD_indexAddr, ↓wpD_convert, ↓wpD_alloc, ↓wpD_load, ↓wpD_store, ↓wpD_nilCheck, ↓wpD_makeInterface, ↓wpD_makeFunc, ↓wpD_makeMap, ↓wpD_slice, ↓wpD_fieldAddr, ↓wpD_field, ↓wpD_lookup, ↓wpD_mapUpdate, ↓wpD_typeAssert, ↓wpD_extract, ↓wpD_range, ↓wpD_next, ↓wpD_build, ↓wpD_buildSlice, ↓wpD_call, ↓wpD_callv, Bd_some, Gd_true, Gd_false, seqK_normal, seqK_exit, seqK_goto, seqK_ret, blockK_normal, blockK_same, blockK_ne, blockK_goto, blockK_ret, dstOk_some, dstOk_none, Nat.reduceLT, true_and, dstAt_zero, dstAt_succ, putO_none, putO_some, ev_tm, ev_int, ev_bool, ev_str, ev_func, ev_nilptr, ev_nilslice, ev_nilmap, upd_at, Nat.reduceEqDiff, if_true, if_false, Option.bind_some, Option.map_some, boolOf_bool, noHints_freeze, noHints_heap, moveA_false, pickA_true, pickA_false, argsE_eq, partsA_eq, partsE, List.mapM_cons, List.mapM_nil, Option.pure_def, Option.bind_eq_bind, optA_none, optA_some, builtinA_len, builtinA_append, binOpA_lss, binOpA_leq, binOpA_gtr, binOpA_geq, binOpA_eql, binOpA_neq, binOpA_add, binOpA_sub, binOpA_mul, binOpA_seql, binOpA_sneq, unOpA_not, natOf_nat, natOf_int, Int.reduceLE, Int.reduceToNat, boundA_int, new_next, set_next, new_objs, set_objs, flat_int, flat_bool, flat_str, flat_agg, extractA_tuple, boundA_none, loadA_rptr, List.getElem?_cons_zero, List.getElem?_cons_succ, List.getD_cons_zero, List.getD_cons_succ, Nat.reduceBEq, Int.reduceBEq, Int.reduceBNe, Int.reduceLT, eq_self, Bool.false_eq_true, decide_true, decide_false, beqT, beqF, Gd_not, resE_one, resE_two, Bool.not_true, Bool.not_false, decide_true, decide_false, beq_self_eq_true, List.toList_toArray, fa1, fa2, fa3, fa4, loadA_cells hKo, ld10 hdl, ld11 hdl, ld12 hdl, ld13 hdl, wpCall_eq (within_runs d.w 500 K (by omega) (by omega)), wpCall_eq (within_runs d.st 10 K (by omega) (by omega)), wpCall_eq (within_runs d.em 21 K (by omega) (by omega)), wpCall_eq (within_runs d.de 50 K (by omega) (by omega)), b1 d.w 500 (by omega) (by omega), b1 d.st 10 (by omega) (by omega), b1 d.de 50 (by omega) (by omega), w0, w1, w2, w3]
  refine ⟨?_, ?_⟩
  · refine meets_const 15 K (by rfl) (by show 15 < 23; omega) ?_
    intro i hi
    match i, hi with
    | 0, _ | 1, _ | 2, _ | 3, _ | 4, _ | 5, _ | 6, _ | 7, _ | 8, _ | 9, _ | 10, _ | 11, _ | 12, _ | 13, _ | 14, _ | 15, _ => exact ⟨_, rfl⟩
  · generalize hM : (((K.set H.next (.cells (setNum d 10 (1 + d.w % 500)).cells)).set H.next (.cells (setNum (setNum d 10 (1 + d.w % 500)) 11 (1 + d.st % 10)).cells)).set H.next (.cells (setNum (setNum (setNum d 10 (1 + d.w % 500)) 11 (1 + d.st % 10)) 12 (d.em % 21)).cells)).set H.next (.cells (goodCfg c).cells) = M
    have hMo : M.objs H.next = .cells (goodCfg c).cells := by rw [← hM, set_objs, if_pos rfl]
    have hMz : M.objs (H.next + 1) = .cells zeroCfg.cells := by rw [← hM, set_objs, if_neg e1, set_objs, if_neg e1, set_objs, if_neg e1, set_objs, if_neg e1, hKz]
    have hMG : Gr H M := by rw [← hM]; exact (((hKG.set (Nat.le_refl _) _).set (Nat.le_refl _) _).set (Nat.le_refl _) _).set (Nat.le_refl _) _
    simp only [↓wpC_skip, ↓wpC_label, ↓wpC_seq, ↓wpC_cond, ↓wpC_block, ↓wpC_exit, ↓wpC_goto, ↓wpC_ret, ↓wpC_region, ↓wpC_draw, ↓wpC_loop, ↓wpC_scope, ↓wpR_nil, ↓wpR_cons, ↓wpR_guard, ↓wpD_box, ↓wpL_nil, ↓wpL_cons, ↓wpL_guard, ↓wpD_move, ↓wpD_assign, ↓wpD_pick, ↓wpD_binOp, ↓wpD_unOp, ↓wpD_builtin, ↓wpD_index, ↓wpD_indexAddr, ↓wpD_convert, ↓wpD_alloc, ↓wpD_load, ↓wpD_store, ↓wpD_nilCheck, ↓wpD_makeInterface, ↓wpD_makeFunc, ↓wpD_makeMap, ↓wpD_slice, ↓wpD_fieldAddr, ↓wpD_field, ↓wpD_lookup, ↓wpD_mapUpdate, ↓wpD_typeAssert, ↓wpD_extract, ↓wpD_range, ↓wpD_next, ↓wpD_build, ↓wpD_buildSlice, ↓wpD_call, ↓wpD_callv, Bd_some, Gd_true, Gd_false, seqK_normal, seqK_exit, seqK_goto, seqK_ret, blockK_normal, blockK_same, blockK_ne, blockK_goto, blockK_ret, dstOk_some, dstOk_none, Nat.reduceLT, true_and, dstAt_zero, dstAt_succ, putO_none, putO_some, ev_tm, ev_int, ev_bool, ev_str, ev_func, ev_nilptr, ev_nilslice, ev_nilmap, upd_at, Nat.reduceEqDiff, if_true, if_false, Option.bind_some, Option.map_some, boolOf_bool, noHints_freeze, noHints_heap, moveA_false, pickA_true, pickA_false, argsE_eq, partsA_eq, partsE, List.mapM_cons, List.mapM_nil, Option.pure_def, Option.bind_eq_bind, optA_none, optA_some, builtinA_len, builtinA_append, binOpA_lss, binOpA_leq, binOpA_gtr, binOpA_geq, binOpA_eql, binOpA_neq, binOpA_add, binOpA_sub, binOpA_mul, binOpA_seql, binOpA_sneq, unOpA_not, natOf_nat, natOf_int, Int.reduceLE, Int.reduceToNat, boundA_int, new_next, set_next, new_objs, set_objs, flat_int, flat_bool, flat_str, flat_agg, extractA_tuple, boundA_none, loadA_rptr, List.getElem?_cons_zero, List.getElem?_cons_succ, List.getD_cons_zero, List.getD_cons_succ, Nat.reduceBEq, Int.reduceBEq, Int.reduceBNe, Int.reduceLT, eq_self, Bool.false_eq_true, decide_true, decide_false, beqT, beqF, Gd_not, resE_one, resE_two, Bool.not_true, Bool.not_false, decide_true, decide_false, beq_self_eq_true, List.toList_toArray, loadA_cells hMo, take28 gl, hst9 M hMz]
    refine res12 (b := H.next + 1) (c := goodCfg c) rfl (by rw [set_objs, if_pos rfl]) gl ⟨rfl, hMG.set (by omega) _⟩
end Go.Proofs.Tryd
