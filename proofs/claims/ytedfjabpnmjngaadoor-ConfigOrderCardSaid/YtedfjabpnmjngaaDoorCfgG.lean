/- A part of the proof (CfgG). -/
import Derived.Test.YtedfjabpnmjngaaDoorCfgF
set_option linter.unusedSimpArgs false
set_option linter.unusedVariables false
namespace Go.Proofs.Tryd
open Go Go.AM

def nl : ByteArray := ⟨#[10]⟩
def linesB (s : ByteArray) : List ByteArray := Lib.splitB nl 0 (Lib.countB s nl) s
/-- Lines, read one behind the other. -/
def readLines (c : Cfg) : List ByteArray → Option Cfg
  | [] => some c
  | t :: r => match lineN c (Lib.goFieldsP blank t) with
    | some c' => readLines c' r
    | none => none
def parseN (s : ByteArray) : Cfg × Int := if 2000 < s.size then (zeroCfg, 4) else match readLines plainCfg (linesB s) with
  | none => (zeroCfg, 5)
  | some c => if okCfg c then (c, 0) else (zeroCfg, 1)
def parseV (s : ByteArray) : AV := .tuple [.agg (parseN s).1.cells, .int .i64 (parseN s).2]

theorem lines_size (sep : ByteArray) : ∀ (k : Nat) (s t : ByteArray), t ∈ Lib.splitB sep 0 k s → t.size ≤ s.size
  | 0, s, t, h => by
    simp only [Lib.splitB, List.mem_singleton] at h
    subst h
    exact Nat.le_refl _
  | k + 1, s, t, h => by
    unfold Lib.splitB at h
    split at h
    · simp only [List.mem_singleton] at h
      subst h
      exact Nat.le_refl _
    · rcases List.mem_cons.mp h with rfl | h
      · rw [ByteArray.size_extract]; omega
      · have := lines_size sep k _ t h
        rw [ByteArray.size_extract] at this
        omega
theorem line_len {c c' : Cfg} {ws : List ByteArray} (hc : c.on.length = 10) (h : lineN c ws = some c') : c'.on.length = 10 := by
  unfold lineN at h
  split at h
  · cases h; exact hc
  · split at h
    · split at h
      · cases h; simp [hc]
      · cases h
    · split at h
      · split at h
        · cases h
        · cases h
          unfold setNum
          repeat' split
          all_goals exact hc
      · cases h
  · cases h
theorem eq29 (ox oy : Operand) (x : Int) : binOpA Tryd.prog .neq 29 ox oy (.int .i64 x) (.int .i64 0) = some (.bool (x != 0)) := binOpA_neq ..

theorem res9 {g : Regs} {H : Heap} {b : Nat} {c : Cfg} {x : AV} {k : AV → Prop} (h2 : g 2 = .ptr b 0) (ho : H.objs b = .cells c.cells) (hl : c.cells.length = 14) (h3 : g 3 = x) (hk : k (.tuple [.agg c.cells, x])) :
    Bd (resE Tryd.prog [.cell 2 28, .tmp 3] 33 g H) k .mk := by
  refine Bd_of (resE_2 (resA_cell (by omega) h2 ho (take28 hl)) (resA_tmp (by omega))) ?_
  rw [h3]
  exact hk
set_option maxHeartbeats 8000000 in
theorem parse_runs (s : ByteArray) (H : Heap) : ∃ v H', Runs Tryd.prog noHints prims 9 [.str s] H v H' ∧ (v = parseV s ∧ Gr H H') := by
  refine runs_of Tryd.prog noHints prims 33 [.cell 2 28, .tmp 3] func9 rfl rfl rfl rfl rfl rfl ?_
  have zl : zeroCfg.cells.length = 14 := rfl
  have hz : (H.new (.cells zeroCfg.cells)).objs H.next = .cells zeroCfg.cells := by rw [new_objs, if_pos rfl]
  simp only [↓wpC_skip, ↓wpC_label, ↓wpC_seq, ↓wpC_cond, ↓wpC_block, ↓wpC_exit, ↓wpC_goto, ↓wpC_ret, ↓wpC_region, ↓wpC_draw, ↓wpC_loop, ↓wpC_scope, ↓wpR_nil, ↓wpR_cons, ↓wpR_guard, ↓wpD_box, ↓wpL_nil, ↓wpL_cons, ↓wpL_guard, ↓wpD_move, ↓wpD_assign, ↓wpD_pick, ↓wpD_binOp, ↓wpD_unOp, ↓wpD_builtin, ↓wpD_index, ↓wpD_indexAddr, ↓wpD_convert, ↓wpD_alloc, ↓wpD_load, ↓wpD_store, ↓wpD_nilCheck, ↓wpD_makeInterface, ↓wpD_makeFunc, ↓wpD_makeMap, ↓wpD_slice, ↓wpD_fieldAddr, ↓wpD_field, ↓wpD_lookup, ↓wpD_mapUpdate, ↓wpD_typeAssert, ↓wpD_extract, ↓wpD_range, ↓wpD_next, ↓wpD_build, ↓wpD_buildSlice, ↓wpD_call, ↓wpD_callv, Bd_some, Gd_true, Gd_false, seqK_normal, seqK_exit, seqK_goto, seqK_ret, blockK_normal, blockK_same, blockK_ne, blockK_goto, blockK_ret, dstOk_some, dstOk_none, Nat.reduceLT, true_and, dstAt_zero, dstAt_succ, putO_none, putO_some, ev_tm, ev_int, ev_bool, ev_str, ev_func, ev_nilptr, ev_nilslice, ev_nilmap, upd_at, Nat.reduceEqDiff, if_true, if_false, Option.bind_some, Option.map_some, boolOf_bool, noHints_freeze, noHints_heap, moveA_false, pickA_true, pickA_false, argsE_eq, partsA_eq, partsE, List.mapM_cons, List.mapM_nil, Option.pure_def, Option.bind_eq_bind, optA_none, optA_some, builtinA_len, builtinA_append, binOpA_lss, binOpA_leq, binOpA_gtr, binOpA_geq, binOpA_eql, binOpA_neq, binOpA_add, binOpA_sub, binOpA_mul, binOpA_seql, binOpA_sneq, unOpA_not, natOf_nat, natOf_int, Int.reduceLE, Int.reduceToNat, boundA_int, new_next, set_next, new_objs, set_objs, flat_int, flat_bool, flat_str, flat_agg, extractA_tuple, boundA_none, loadA_rptr, List.getElem?_cons_zero, List.getElem?_cons_succ, List.getD_cons_zero, List.getD_cons_succ, Nat.reduceBEq, Int.reduceBEq, Int.reduceBNe, Int.reduceLT, eq_self, Bool.false_eq_true, decide_true, decide_false, beqT, beqF, Gd_not, resE_one, resE_two, Bool.not_true, Bool.not_false, decide_true, decide_false, beq_self_eq_true, List.toList_toArray, zero28, lenA_str und9]
  refine Gd_of (fun h1 => ?_) (fun h1 => ?_)
  · simp only [decide_eq_true_eq] at h1
    simp only [↓wpC_skip, ↓wpC_label, ↓wpC_seq, ↓wpC_cond, ↓wpC_block, ↓wpC_exit, ↓wpC_goto, ↓wpC_ret, ↓wpC_region, ↓wpC_draw, ↓wpC_loop, ↓wpC_scope, ↓wpR_nil, ↓wpR_cons, ↓wpR_guard, ↓wpD_box, ↓wpL_nil, ↓wpL_cons, ↓wpL_guard, ↓wpD_move, ↓wpD_assign, ↓wpD_pick, ↓wpD_binOp, ↓wpD_unOp, ↓wpD_builtin, ↓wpD_index, ↓wpD_indexAddr, ↓wpD_convert, ↓wpD_alloc, ↓wpD_load, ↓wpD_store, ↓wpD_nilCheck, ↓wpD_makeInterface, ↓wpD_makeFunc, ↓wpD_makeMap, ↓wpD_slice, ↓wpD_fieldAddr, ↓wpD_field, ↓wpD_lookup, ↓wpD_mapUpdate, ↓wpD_typeAssert, ↓wpD_extract, ↓wpD_range, ↓wpD_next, ↓wpD_build, ↓wpD_buildSlice, ↓wpD_call, ↓wpD_callv, Bd_some, Gd_true, Gd_false, seqK_normal, seqK_exit, seqK_goto, seqK_ret, blockK_normal, blockK_same, blockK_ne, blockK_goto, blockK_ret, dstOk_some, dstOk_none, Nat.reduceLT, true_and, dstAt_zero, dstAt_succ, putO_none, putO_some, ev_tm, ev_int, ev_bool, ev_str, ev_func, ev_nilptr, ev_nilslice, ev_nilmap, upd_at, Nat.reduceEqDiff, if_true, if_false, Option.bind_some, Option.map_some, boolOf_bool, noHints_freeze, noHints_heap, moveA_false, pickA_true, pickA_false, argsE_eq, partsA_eq, partsE, List.mapM_cons, List.mapM_nil, Option.pure_def, Option.bind_eq_bind, optA_none, optA_some, builtinA_len, builtinA_append, binOpA_lss, binOpA_leq, binOpA_gtr, binOpA_geq, binOpA_eql, binOpA_neq, binOpA_add, binOpA_sub, binOpA_mul, binOpA_seql, binOpA_sneq, unOpA_not, natOf_nat, natOf_int, Int.reduceLE, Int.reduceToNat, boundA_int, new_next, set_next, new_objs, set_objs, flat_int, flat_bool, flat_str, flat_agg, extractA_tuple, boundA_none, loadA_rptr, List.getElem?_cons_zero, List.getElem?_cons_succ, List.getD_cons_zero, List.getD_cons_succ, Nat.reduceBEq, Int.reduceBEq, Int.reduceBNe, Int.reduceLT, eq_self, Bool.false_eq_true, decide_true, decide_false, beqT, beqF, Gd_not, resE_one, resE_two, Bool.not_true, Bool.not_false, decide_true, decide_false, beq_self_eq_true, List.toList_toArray, buildz28, storeA_agg (vs := zeroCfg.cells) hz (by rw [zl]; exact sz28) rfl]
    have hp : parseN s = (zeroCfg, 4) := by unfold parseN; rw [if_pos (by omega)]
    refine res9 (b := H.next) (c := zeroCfg) rfl (by rw [set_objs, if_pos rfl]) zl rfl ?_
    refine ⟨?_, ((Gr.refl H).new _).set (Nat.le_refl _) _⟩
    unfold parseV
    rw [hp]
    rfl
  · simp only [decide_eq_false_iff_not] at h1
    obtain ⟨v1, H1, hr1, rfl, hG1⟩ := plain_runs (H.new (.cells zeroCfg.cells))
    have hlb : Gr H H1 := ((Gr.refl H).new _).trans hG1
    have hb0 : H.next < H1.next := by have := hG1.next; rw [new_next] at this; omega
    have hz1 : H1.objs H.next = .cells zeroCfg.cells := by rw [hG1.objs _ (by rw [new_next]; omega), hz]
    have pl : plainCfg.cells.length = 14 := rfl
    have hz2 : (H1.new (.cells zeroCfg.cells)).objs H1.next = .cells zeroCfg.cells := by rw [new_objs, if_pos rfl]
    have hsp : ∀ K, Runs Tryd.prog noHints prims 15 [.str s, .str nl] K (.slice .full 1 ((linesB s).map .str) (Lib.countB s nl + 1)) K := fun K => runs_prim (p := pSplit) rfl (by
      simp only [pSplit]
      rw [if_pos ⟨by omega, by decide⟩]; rfl)
    have hsp' : ∀ K, Runs Tryd.prog noHints prims 15 [.str s, .str { data := #[10] }] K (.slice .full 1 ((linesB s).map .str) (Lib.countB s nl + 1)) K := hsp
    have hcb : Lib.countB s nl ≤ s.size := Lib.countB_le nl (by decide) s.size s (Nat.le_refl _)
    have hlen : Lib.countB s nl + 1 = (linesB s).length := (splitB_len s nl (by decide)).symm
    simp only [↓wpC_skip, ↓wpC_label, ↓wpC_seq, ↓wpC_cond, ↓wpC_block, ↓wpC_exit, ↓wpC_goto, ↓wpC_ret, ↓wpC_region, ↓wpC_draw, ↓wpC_loop, ↓wpC_scope, ↓wpR_nil, ↓wpR_cons, ↓wpR_guard, ↓wpD_box, ↓wpL_nil, ↓wpL_cons, ↓wpL_guard, ↓wpD_move, ↓wpD_assign, ↓wpD_pick, ↓wpD_binOp, ↓wpD_unOp, ↓wpD_builtin, ↓wpD_index, ↓wpD_indexAddr, ↓wpD_convert, ↓wpD_alloc, ↓wpD_load, ↓wpD_store, ↓wpD_nilCheck, ↓wpD_makeInterface, ↓wpD_makeFunc, ↓wpD_makeMap, ↓wpD_slice, ↓wpD_fieldAddr, ↓wpD_field, ↓wpD_lookup, ↓wpD_mapUpdate, ↓wpD_typeAssert, ↓wpD_extract, ↓wpD_range, ↓wpD_next, ↓wpD_build, ↓wpD_buildSlice, ↓wpD_call, ↓wpD_callv, Bd_some, Gd_true, Gd_false, seqK_normal, seqK_exit, seqK_goto, seqK_ret, blockK_normal, blockK_same, blockK_ne, blockK_goto, blockK_ret, dstOk_some, dstOk_none, Nat.reduceLT, true_and, dstAt_zero, dstAt_succ, putO_none, putO_some, ev_tm, ev_int, ev_bool, ev_str, ev_func, ev_nilptr, ev_nilslice, ev_nilmap, upd_at, Nat.reduceEqDiff, if_true, if_false, Option.bind_some, Option.map_some, boolOf_bool, noHints_freeze, noHints_heap, moveA_false, pickA_true, pickA_false, argsE_eq, partsA_eq, partsE, List.mapM_cons, List.mapM_nil, Option.pure_def, Option.bind_eq_bind, optA_none, optA_some, builtinA_len, builtinA_append, binOpA_lss, binOpA_leq, binOpA_gtr, binOpA_geq, binOpA_eql, binOpA_neq, binOpA_add, binOpA_sub, binOpA_mul, binOpA_seql, binOpA_sneq, unOpA_not, natOf_nat, natOf_int, Int.reduceLE, Int.reduceToNat, boundA_int, new_next, set_next, new_objs, set_objs, flat_int, flat_bool, flat_str, flat_agg, extractA_tuple, boundA_none, loadA_rptr, List.getElem?_cons_zero, List.getElem?_cons_succ, List.getD_cons_zero, List.getD_cons_succ, Nat.reduceBEq, Int.reduceBEq, Int.reduceBNe, Int.reduceLT, eq_self, Bool.false_eq_true, decide_true, decide_false, beqT, beqF, Gd_not, resE_one, resE_two, Bool.not_true, Bool.not_false, decide_true, decide_false, beq_self_eq_true, List.toList_toArray, wpCall_eq hr1, zero28, storeA_agg (vs := plainCfg.cells) hz2 (by rw [pl]; exact sz28) rfl, wpCall_eq (hsp' _), lenA_slice und24]
    rw [hlen]
    refine wpT_loop (fun (σ : Nat × Cfg) g H' => g 2 = .ptr H.next 0 ∧ g 4 = .ptr H1.next 0 ∧ g 14 = .slice .full 1 ((linesB s).map .str) (linesB s).length ∧ g 15 = .int .i64 ((linesB s).length : Nat) ∧ g 16 = .int .i64 (σ.1 : Nat) ∧
      σ.1 ≤ (linesB s).length ∧ Gr H H' ∧ H'.objs H1.next = .cells σ.2.cells ∧ σ.2.on.length = 10 ∧ H'.objs H.next = .cells zeroCfg.cells ∧ H1.next < H'.next ∧
      readLines plainCfg (linesB s) = readLines σ.2 ((linesB s).drop σ.1)) (fun σ => (linesB s).length - σ.1) (0, plainCfg) ⟨rfl, rfl, rfl, rfl, rfl, by omega, (hlb.new _).set (by omega) _, ?_, rfl, ?_, ?_, rfl⟩ ?_
    · rw [set_objs, if_pos rfl]
    · rw [set_objs, if_neg (by omega), new_objs, if_neg (by omega), hz1]
    · rw [set_next, new_next]; omega
    · rintro ⟨i, c⟩ g H' ⟨g2, g4, g14, g15, g16, hi, hG, ho, hc, ho0, hn, hrd⟩
      simp only at g16 hi ho hc hrd
      simp only [↓wpC_skip, ↓wpC_label, ↓wpC_seq, ↓wpC_cond, ↓wpC_block, ↓wpC_exit, ↓wpC_goto, ↓wpC_ret, ↓wpC_region, ↓wpC_draw, ↓wpC_loop, ↓wpC_scope, ↓wpR_nil, ↓wpR_cons, ↓wpR_guard, ↓wpD_box, ↓wpL_nil, ↓wpL_cons, ↓wpL_guard, ↓wpD_move, ↓wpD_assign, ↓wpD_pick, ↓wpD_binOp, ↓wpD_unOp, ↓wpD_builtin, ↓wpD_index, ↓wpD_indexAddr, ↓wpD_convert, ↓wpD_alloc, ↓wpD_load, ↓wpD_store, ↓wpD_nilCheck, ↓wpD_makeInterface, ↓wpD_makeFunc, ↓wpD_makeMap, ↓wpD_slice, ↓wpD_fieldAddr, ↓wpD_field, ↓wpD_lookup, ↓wpD_mapUpdate, ↓wpD_typeAssert, ↓wpD_extract, ↓wpD_range, ↓wpD_next, ↓wpD_build, ↓wpD_buildSlice, ↓wpD_call, ↓wpD_callv, Bd_some, Gd_true, Gd_false, seqK_normal, seqK_exit, seqK_goto, seqK_ret, blockK_normal, blockK_same, blockK_ne, blockK_goto, blockK_ret, dstOk_some, dstOk_none, Nat.reduceLT, true_and, dstAt_zero, dstAt_succ, putO_none, putO_some, ev_tm, ev_int, ev_bool, ev_str, ev_func, ev_nilptr, ev_nilslice, ev_nilmap, upd_at, Nat.reduceEqDiff, if_true, if_false, Option.bind_some, Option.map_some, boolOf_bool, noHints_freeze, noHints_heap, moveA_false, pickA_true, pickA_false, argsE_eq, partsA_eq, partsE, List.mapM_cons, List.mapM_nil, Option.pure_def, Option.bind_eq_bind, optA_none, optA_some, builtinA_len, builtinA_append, binOpA_lss, binOpA_leq, binOpA_gtr, binOpA_geq, binOpA_eql, binOpA_neq, binOpA_add, binOpA_sub, binOpA_mul, binOpA_seql, binOpA_sneq, unOpA_not, natOf_nat, natOf_int, Int.reduceLE, Int.reduceToNat, boundA_int, new_next, set_next, new_objs, set_objs, flat_int, flat_bool, flat_str, flat_agg, extractA_tuple, boundA_none, loadA_rptr, List.getElem?_cons_zero, List.getElem?_cons_succ, List.getD_cons_zero, List.getD_cons_succ, Nat.reduceBEq, Int.reduceBEq, Int.reduceBNe, Int.reduceLT, eq_self, Bool.false_eq_true, decide_true, decide_false, beqT, beqF, Gd_not, resE_one, resE_two, Bool.not_true, Bool.not_false, decide_true, decide_false, beq_self_eq_true, List.toList_toArray, g15, g16]
      refine Gd_of (fun h2 => ?_) (fun h2 => ?_)
      · simp only [decide_eq_true_eq] at h2
        have hi' : i < (linesB s).length := by omega
        obtain ⟨t, ht⟩ : ∃ t, (linesB s)[i]? = some t := ⟨_, List.getElem?_eq_getElem hi'⟩
        have htm : t.size ≤ s.size := lines_size nl _ s t (List.mem_of_getElem? ht)
        obtain ⟨cs, i1, t1⟩ := elem24 (r := .full) rfl ht
        obtain ⟨v2, H2, hr2, hU, hres⟩ := line_runs c hc H1.next (Lib.goFieldsP blank t) H' ho hn
        have hb : (linesB s).drop i = t :: (linesB s).drop (i + 1) := by
          rw [List.drop_eq_getElem_cons hi']
          rw [List.getElem?_eq_getElem hi'] at ht
          cases ht
          rfl
        have hbase : H.next + 1 ≤ H1.next := hb0
        have hGr2 : Gr H H2 := ⟨Nat.le_trans hG.next hU.next, fun x hx => (hU.objs x (Nat.lt_of_lt_of_le hx hG.next) (by omega)).trans (hG.objs x hx), fun x hx => (hU.tips x (Nat.lt_of_lt_of_le hx hG.next)).trans (hG.tips x hx)⟩
        have hz3 : H2.objs H.next = .cells zeroCfg.cells := by rw [hU.objs _ (by omega) (by omega), ho0]
        simp only [↓wpC_skip, ↓wpC_label, ↓wpC_seq, ↓wpC_cond, ↓wpC_block, ↓wpC_exit, ↓wpC_goto, ↓wpC_ret, ↓wpC_region, ↓wpC_draw, ↓wpC_loop, ↓wpC_scope, ↓wpR_nil, ↓wpR_cons, ↓wpR_guard, ↓wpD_box, ↓wpL_nil, ↓wpL_cons, ↓wpL_guard, ↓wpD_move, ↓wpD_assign, ↓wpD_pick, ↓wpD_binOp, ↓wpD_unOp, ↓wpD_builtin, ↓wpD_index, ↓wpD_indexAddr, ↓wpD_convert, ↓wpD_alloc, ↓wpD_load, ↓wpD_store, ↓wpD_nilCheck, ↓wpD_makeInterface, ↓wpD_makeFunc, ↓wpD_makeMap, ↓wpD_slice, ↓wpD_fieldAddr, ↓wpD_field, ↓wpD_lookup, ↓wpD_mapUpdate, ↓wpD_typeAssert, ↓wpD_extract, ↓wpD_range, ↓wpD_next, ↓wpD_build, ↓wpD_buildSlice, ↓wpD_call, ↓wpD_callv, Bd_some, Gd_true, Gd_false, seqK_normal, seqK_exit, seqK_goto, seqK_ret, blockK_normal, blockK_same, blockK_ne, blockK_goto, blockK_ret, dstOk_some, dstOk_none, Nat.reduceLT, true_and, dstAt_zero, dstAt_succ, putO_none, putO_some, ev_tm, ev_int, ev_bool, ev_str, ev_func, ev_nilptr, ev_nilslice, ev_nilmap, upd_at, Nat.reduceEqDiff, if_true, if_false, Option.bind_some, Option.map_some, boolOf_bool, noHints_freeze, noHints_heap, moveA_false, pickA_true, pickA_false, argsE_eq, partsA_eq, partsE, List.mapM_cons, List.mapM_nil, Option.pure_def, Option.bind_eq_bind, optA_none, optA_some, builtinA_len, builtinA_append, binOpA_lss, binOpA_leq, binOpA_gtr, binOpA_geq, binOpA_eql, binOpA_neq, binOpA_add, binOpA_sub, binOpA_mul, binOpA_seql, binOpA_sneq, unOpA_not, natOf_nat, natOf_int, Int.reduceLE, Int.reduceToNat, boundA_int, new_next, set_next, new_objs, set_objs, flat_int, flat_bool, flat_str, flat_agg, extractA_tuple, boundA_none, loadA_rptr, List.getElem?_cons_zero, List.getElem?_cons_succ, List.getD_cons_zero, List.getD_cons_succ, Nat.reduceBEq, Int.reduceBEq, Int.reduceBNe, Int.reduceLT, eq_self, Bool.false_eq_true, decide_true, decide_false, beqT, beqF, Gd_not, resE_one, resE_two, Bool.not_true, Bool.not_false, decide_true, decide_false, beq_self_eq_true, List.toList_toArray, g14, g16, g4, i1, t1, wpCall_eq (words_runs t (by omega) H'), wordsV, wpCall_eq hr2]
        rw [hb] at hrd
        simp only [readLines] at hrd
        cases hl : lineN c (Lib.goFieldsP blank t) with
        | none =>
          rw [hl] at hres hrd
          simp only at hres hrd
          subst hres
          simp only [↓wpC_skip, ↓wpC_label, ↓wpC_seq, ↓wpC_cond, ↓wpC_block, ↓wpC_exit, ↓wpC_goto, ↓wpC_ret, ↓wpC_region, ↓wpC_draw, ↓wpC_loop, ↓wpC_scope, ↓wpR_nil, ↓wpR_cons, ↓wpR_guard, ↓wpD_box, ↓wpL_nil, ↓wpL_cons, ↓wpL_guard, ↓wpD_move, ↓wpD_assign, ↓wpD_pick, ↓wpD_binOp, ↓wpD_unOp, ↓wpD_builtin, ↓wpD_index, ↓wpD_indexAddr, ↓wpD_convert, ↓wpD_alloc, ↓wpD_load, ↓wpD_store, ↓wpD_nilCheck, ↓wpD_makeInterface, ↓wpD_makeFunc, ↓wpD_makeMap, ↓wpD_slice, ↓wpD_fieldAddr, ↓wpD_field, ↓wpD_lookup, ↓wpD_mapUpdate, ↓wpD_typeAssert, ↓wpD_extract, ↓wpD_range, ↓wpD_next, ↓wpD_build, ↓wpD_buildSlice, ↓wpD_call, ↓wpD_callv, Bd_some, Gd_true, Gd_false, seqK_normal, seqK_exit, seqK_goto, seqK_ret, blockK_normal, blockK_same, blockK_ne, blockK_goto, blockK_ret, dstOk_some, dstOk_none, Nat.reduceLT, true_and, dstAt_zero, dstAt_succ, putO_none, putO_some, ev_tm, ev_int, ev_bool, ev_str, ev_func, ev_nilptr, ev_nilslice, ev_nilmap, upd_at, Nat.reduceEqDiff, if_true, if_false, Option.bind_some, Option.map_some, boolOf_bool, noHints_freeze, noHints_heap, moveA_false, pickA_true, pickA_false, argsE_eq, partsA_eq, partsE, List.mapM_cons, List.mapM_nil, Option.pure_def, Option.bind_eq_bind, optA_none, optA_some, builtinA_len, builtinA_append, binOpA_lss, binOpA_leq, binOpA_gtr, binOpA_geq, binOpA_eql, binOpA_neq, binOpA_add, binOpA_sub, binOpA_mul, binOpA_seql, binOpA_sneq, unOpA_not, natOf_nat, natOf_int, Int.reduceLE, Int.reduceToNat, boundA_int, new_next, set_next, new_objs, set_objs, flat_int, flat_bool, flat_str, flat_agg, extractA_tuple, boundA_none, loadA_rptr, List.getElem?_cons_zero, List.getElem?_cons_succ, List.getD_cons_zero, List.getD_cons_succ, Nat.reduceBEq, Int.reduceBEq, Int.reduceBNe, Int.reduceLT, eq_self, Bool.false_eq_true, decide_true, decide_false, beqT, beqF, Gd_not, resE_one, resE_two, Bool.not_true, Bool.not_false, decide_true, decide_false, beq_self_eq_true, List.toList_toArray, buildz28, g2, storeA_agg (vs := zeroCfg.cells) hz3 (by rw [zl]; exact sz28) rfl]
          have hp : parseN s = (zeroCfg, 5) := by unfold parseN; rw [if_neg (by omega), hrd]
          refine res9 (b := H.next) (c := zeroCfg) g2 (by rw [set_objs, if_pos rfl]) zl rfl ?_
          refine ⟨?_, hGr2.set (Nat.le_refl _) _⟩
          unfold parseV
          rw [hp]
          rfl
        | some c' =>
          rw [hl] at hres hrd
          simp only at hres hrd
          obtain ⟨rfl, ho', hc'⟩ := hres
          have hw : IntKind.i64.wrap ((i : Int) + 1) = ((i + 1 : Nat) : Int) := by rw [w64 (by omega) (by omega)]; rfl
          simp only [↓wpC_skip, ↓wpC_label, ↓wpC_seq, ↓wpC_cond, ↓wpC_block, ↓wpC_exit, ↓wpC_goto, ↓wpC_ret, ↓wpC_region, ↓wpC_draw, ↓wpC_loop, ↓wpC_scope, ↓wpR_nil, ↓wpR_cons, ↓wpR_guard, ↓wpD_box, ↓wpL_nil, ↓wpL_cons, ↓wpL_guard, ↓wpD_move, ↓wpD_assign, ↓wpD_pick, ↓wpD_binOp, ↓wpD_unOp, ↓wpD_builtin, ↓wpD_index, ↓wpD_indexAddr, ↓wpD_convert, ↓wpD_alloc, ↓wpD_load, ↓wpD_store, ↓wpD_nilCheck, ↓wpD_makeInterface, ↓wpD_makeFunc, ↓wpD_makeMap, ↓wpD_slice, ↓wpD_fieldAddr, ↓wpD_field, ↓wpD_lookup, ↓wpD_mapUpdate, ↓wpD_typeAssert, ↓wpD_extract, ↓wpD_range, ↓wpD_next, ↓wpD_build, ↓wpD_buildSlice, ↓wpD_call, ↓wpD_callv, Bd_some, Gd_true, Gd_false, seqK_normal, seqK_exit, seqK_goto, seqK_ret, blockK_normal, blockK_same, blockK_ne, blockK_goto, blockK_ret, dstOk_some, dstOk_none, Nat.reduceLT, true_and, dstAt_zero, dstAt_succ, putO_none, putO_some, ev_tm, ev_int, ev_bool, ev_str, ev_func, ev_nilptr, ev_nilslice, ev_nilmap, upd_at, Nat.reduceEqDiff, if_true, if_false, Option.bind_some, Option.map_some, boolOf_bool, noHints_freeze, noHints_heap, moveA_false, pickA_true, pickA_false, argsE_eq, partsA_eq, partsE, List.mapM_cons, List.mapM_nil, Option.pure_def, Option.bind_eq_bind, optA_none, optA_some, builtinA_len, builtinA_append, binOpA_lss, binOpA_leq, binOpA_gtr, binOpA_geq, binOpA_eql, binOpA_neq, binOpA_add, binOpA_sub, binOpA_mul, binOpA_seql, binOpA_sneq, unOpA_not, natOf_nat, natOf_int, Int.reduceLE, Int.reduceToNat, boundA_int, new_next, set_next, new_objs, set_objs, flat_int, flat_bool, flat_str, flat_agg, extractA_tuple, boundA_none, loadA_rptr, List.getElem?_cons_zero, List.getElem?_cons_succ, List.getD_cons_zero, List.getD_cons_succ, Nat.reduceBEq, Int.reduceBEq, Int.reduceBNe, Int.reduceLT, eq_self, Bool.false_eq_true, decide_true, decide_false, beqT, beqF, Gd_not, resE_one, resE_two, Bool.not_true, Bool.not_false, decide_true, decide_false, beq_self_eq_true, List.toList_toArray, g16, hw]
          exact Again.mk (i + 1, c') ⟨g2, g4, g14, g15, rfl, by simp only; omega, hGr2, ho', hc', hz3, Nat.lt_of_lt_of_le hn hU.next, hrd⟩ (by simp only; omega)
      · simp only [decide_eq_false_iff_not] at h2
        have hii : i = (linesB s).length := by omega
        subst hii
        rw [List.drop_length] at hrd
        simp only [readLines] at hrd
        obtain ⟨v2, H2, hr2, rfl, hG2⟩ := check_runs c hc H'
        have hz3 : H2.objs H.next = .cells zeroCfg.cells := by rw [hG2.objs _ (by omega), ho0]
        have ho3 : H2.objs H1.next = .cells c.cells := by rw [hG2.objs _ hn, ho]
        simp only [↓wpC_skip, ↓wpC_label, ↓wpC_seq, ↓wpC_cond, ↓wpC_block, ↓wpC_exit, ↓wpC_goto, ↓wpC_ret, ↓wpC_region, ↓wpC_draw, ↓wpC_loop, ↓wpC_scope, ↓wpR_nil, ↓wpR_cons, ↓wpR_guard, ↓wpD_box, ↓wpL_nil, ↓wpL_cons, ↓wpL_guard, ↓wpD_move, ↓wpD_assign, ↓wpD_pick, ↓wpD_binOp, ↓wpD_unOp, ↓wpD_builtin, ↓wpD_index, ↓wpD_indexAddr, ↓wpD_convert, ↓wpD_alloc, ↓wpD_load, ↓wpD_store, ↓wpD_nilCheck, ↓wpD_makeInterface, ↓wpD_makeFunc, ↓wpD_makeMap, ↓wpD_slice, ↓wpD_fieldAddr, ↓wpD_field, ↓wpD_lookup, ↓wpD_mapUpdate, ↓wpD_typeAssert, ↓wpD_extract, ↓wpD_range, ↓wpD_next, ↓wpD_build, ↓wpD_buildSlice, ↓wpD_call, ↓wpD_callv, Bd_some, Gd_true, Gd_false, seqK_normal, seqK_exit, seqK_goto, seqK_ret, blockK_normal, blockK_same, blockK_ne, blockK_goto, blockK_ret, dstOk_some, dstOk_none, Nat.reduceLT, true_and, dstAt_zero, dstAt_succ, putO_none, putO_some, ev_tm, ev_int, ev_bool, ev_str, ev_func, ev_nilptr, ev_nilslice, ev_nilmap, upd_at, Nat.reduceEqDiff, if_true, if_false, Option.bind_some, Option.map_some, boolOf_bool, noHints_freeze, noHints_heap, moveA_false, pickA_true, pickA_false, argsE_eq, partsA_eq, partsE, List.mapM_cons, List.mapM_nil, Option.pure_def, Option.bind_eq_bind, optA_none, optA_some, builtinA_len, builtinA_append, binOpA_lss, binOpA_leq, binOpA_gtr, binOpA_geq, binOpA_eql, binOpA_neq, binOpA_add, binOpA_sub, binOpA_mul, binOpA_seql, binOpA_sneq, unOpA_not, natOf_nat, natOf_int, Int.reduceLE, Int.reduceToNat, boundA_int, new_next, set_next, new_objs, set_objs, flat_int, flat_bool, flat_str, flat_agg, extractA_tuple, boundA_none, loadA_rptr, List.getElem?_cons_zero, List.getElem?_cons_succ, List.getD_cons_zero, List.getD_cons_succ, Nat.reduceBEq, Int.reduceBEq, Int.reduceBNe, Int.reduceLT, eq_self, Bool.false_eq_true, decide_true, decide_false, beqT, beqF, Gd_not, resE_one, resE_two, Bool.not_true, Bool.not_false, decide_true, decide_false, beq_self_eq_true, List.toList_toArray, g4, loadA_cells ho, take28 (Cfg.len hc), wpCall_eq hr2]
        cases hok : okCfg c with
        | true =>
          simp only [↓wpC_skip, ↓wpC_label, ↓wpC_seq, ↓wpC_cond, ↓wpC_block, ↓wpC_exit, ↓wpC_goto, ↓wpC_ret, ↓wpC_region, ↓wpC_draw, ↓wpC_loop, ↓wpC_scope, ↓wpR_nil, ↓wpR_cons, ↓wpR_guard, ↓wpD_box, ↓wpL_nil, ↓wpL_cons, ↓wpL_guard, ↓wpD_move, ↓wpD_assign, ↓wpD_pick, ↓wpD_binOp, ↓wpD_unOp, ↓wpD_builtin, ↓wpD_index, ↓wpD_indexAddr, ↓wpD_convert, ↓wpD_alloc, ↓wpD_load, ↓wpD_store, ↓wpD_nilCheck, ↓wpD_makeInterface, ↓wpD_makeFunc, ↓wpD_makeMap, ↓wpD_slice, ↓wpD_fieldAddr, ↓wpD_field, ↓wpD_lookup, ↓wpD_mapUpdate, ↓wpD_typeAssert, ↓wpD_extract, ↓wpD_range, ↓wpD_next, ↓wpD_build, ↓wpD_buildSlice, ↓wpD_call, ↓wpD_callv, Bd_some, Gd_true, Gd_false, seqK_normal, seqK_exit, seqK_goto, seqK_ret, blockK_normal, blockK_same, blockK_ne, blockK_goto, blockK_ret, dstOk_some, dstOk_none, Nat.reduceLT, true_and, dstAt_zero, dstAt_succ, putO_none, putO_some, ev_tm, ev_int, ev_bool, ev_str, ev_func, ev_nilptr, ev_nilslice, ev_nilmap, upd_at, Nat.reduceEqDiff, if_true, if_false, Option.bind_some, Option.map_some, boolOf_bool, noHints_freeze, noHints_heap, moveA_false, pickA_true, pickA_false, argsE_eq, partsA_eq, partsE, List.mapM_cons, List.mapM_nil, Option.pure_def, Option.bind_eq_bind, optA_none, optA_some, builtinA_len, builtinA_append, binOpA_lss, binOpA_leq, binOpA_gtr, binOpA_geq, binOpA_eql, binOpA_neq, binOpA_add, binOpA_sub, binOpA_mul, binOpA_seql, binOpA_sneq, unOpA_not, natOf_nat, natOf_int, Int.reduceLE, Int.reduceToNat, boundA_int, new_next, set_next, new_objs, set_objs, flat_int, flat_bool, flat_str, flat_agg, extractA_tuple, boundA_none, loadA_rptr, List.getElem?_cons_zero, List.getElem?_cons_succ, List.getD_cons_zero, List.getD_cons_succ, Nat.reduceBEq, Int.reduceBEq, Int.reduceBNe, Int.reduceLT, eq_self, Bool.false_eq_true, decide_true, decide_false, beqT, beqF, Gd_not, resE_one, resE_two, Bool.not_true, Bool.not_false, decide_true, decide_false, beq_self_eq_true, List.toList_toArray, eq_self, Bool.false_eq_true, Int.reduceBNe, g4, g2, loadA_cells ho3, take28 (Cfg.len hc), storeA_agg (vs := c.cells) hz3 (by rw [Cfg.len hc]; exact sz28) (by rw [Cfg.len hc, zl])]
          have hp : parseN s = (c, 0) := by unfold parseN; rw [if_neg (by omega), hrd]; simp [hok]
          refine res9 (b := H.next) (c := c) g2 (by rw [set_objs, if_pos rfl]) (Cfg.len hc) rfl ?_
          refine ⟨?_, (hG.trans hG2).set (Nat.le_refl _) _⟩
          unfold parseV
          rw [hp]
          rfl
        | false =>
          simp only [↓wpC_skip, ↓wpC_label, ↓wpC_seq, ↓wpC_cond, ↓wpC_block, ↓wpC_exit, ↓wpC_goto, ↓wpC_ret, ↓wpC_region, ↓wpC_draw, ↓wpC_loop, ↓wpC_scope, ↓wpR_nil, ↓wpR_cons, ↓wpR_guard, ↓wpD_box, ↓wpL_nil, ↓wpL_cons, ↓wpL_guard, ↓wpD_move, ↓wpD_assign, ↓wpD_pick, ↓wpD_binOp, ↓wpD_unOp, ↓wpD_builtin, ↓wpD_index, ↓wpD_indexAddr, ↓wpD_convert, ↓wpD_alloc, ↓wpD_load, ↓wpD_store, ↓wpD_nilCheck, ↓wpD_makeInterface, ↓wpD_makeFunc, ↓wpD_makeMap, ↓wpD_slice, ↓wpD_fieldAddr, ↓wpD_field, ↓wpD_lookup, ↓wpD_mapUpdate, ↓wpD_typeAssert, ↓wpD_extract, ↓wpD_range, ↓wpD_next, ↓wpD_build, ↓wpD_buildSlice, ↓wpD_call, ↓wpD_callv, Bd_some, Gd_true, Gd_false, seqK_normal, seqK_exit, seqK_goto, seqK_ret, blockK_normal, blockK_same, blockK_ne, blockK_goto, blockK_ret, dstOk_some, dstOk_none, Nat.reduceLT, true_and, dstAt_zero, dstAt_succ, putO_none, putO_some, ev_tm, ev_int, ev_bool, ev_str, ev_func, ev_nilptr, ev_nilslice, ev_nilmap, upd_at, Nat.reduceEqDiff, if_true, if_false, Option.bind_some, Option.map_some, boolOf_bool, noHints_freeze, noHints_heap, moveA_false, pickA_true, pickA_false, argsE_eq, partsA_eq, partsE, List.mapM_cons, List.mapM_nil, Option.pure_def, Option.bind_eq_bind, optA_none, optA_some, builtinA_len, builtinA_append, binOpA_lss, binOpA_leq, binOpA_gtr, binOpA_geq, binOpA_eql, binOpA_neq, binOpA_add, binOpA_sub, binOpA_mul, binOpA_seql, binOpA_sneq, unOpA_not, natOf_nat, natOf_int, Int.reduceLE, Int.reduceToNat, boundA_int, new_next, set_next, new_objs, set_objs, flat_int, flat_bool, flat_str, flat_agg, extractA_tuple, boundA_none, loadA_rptr, List.getElem?_cons_zero, List.getElem?_cons_succ, List.getD_cons_zero, List.getD_cons_succ, Nat.reduceBEq, Int.reduceBEq, Int.reduceBNe, Int.reduceLT, eq_self, Bool.false_eq_true, decide_true, decide_false, beqT, beqF, Gd_not, resE_one, resE_two, Bool.not_true, Bool.not_false, decide_true, decide_false, beq_self_eq_true, List.toList_toArray, eq_self, Bool.false_eq_true, Int.reduceBNe, g2, buildz28, storeA_agg (vs := zeroCfg.cells) hz3 (by rw [zl]; exact sz28) rfl]
          have hp : parseN s = (zeroCfg, 1) := by unfold parseN; rw [if_neg (by omega), hrd]; simp [hok]
          refine res9 (b := H.next) (c := zeroCfg) g2 (by rw [set_objs, if_pos rfl]) zl rfl ?_
          refine ⟨?_, (hG.trans hG2).set (Nat.le_refl _) _⟩
          unfold parseV
          rw [hp]
          rfl
end Go.Proofs.Tryd
