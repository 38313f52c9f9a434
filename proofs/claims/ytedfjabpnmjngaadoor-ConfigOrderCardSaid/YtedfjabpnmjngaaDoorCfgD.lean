/- A part of the proof (CfgD). -/
import Derived.Test.YtedfjabpnmjngaaDoorCfgC
set_option linter.unusedSimpArgs false
set_option linter.unusedVariables false
namespace Go.Proofs.Tryd
open Go Go.AM

/- NUMBERS -/
def numF : List UInt8 → Int → Int
  | [], n => n
  | b :: r, n => if (b.toNat : Int) < 48 ∨ 57 < (b.toNat : Int) then -1 else numF r (10 * n + (b.toNat - 48))
def numS (s : ByteArray) : Int := if s.size < 1 ∨ 3 < s.size then -1 else numF s.data.toList 0
def digit (b : UInt8) : Prop := 48 ≤ b.toNat ∧ b.toNat ≤ 57
theorem drop_at (s : ByteArray) (i : Nat) (hi : i < s.size) : s.data.toList.drop i = s[i] :: s.data.toList.drop (i + 1) := by
  have h2 : i < s.data.toList.length := by rw [Array.length_toList]; exact hi
  rw [List.drop_eq_getElem_cons h2]; rfl
theorem numF_nonneg : ∀ (l : List UInt8) (n : Int), (∀ b ∈ l, digit b) → 0 ≤ n → 0 ≤ numF l n
  | [], n, _, hn => hn
  | b :: r, n, h, hn => by
    have hb := h b (by simp)
    unfold digit at hb
    rw [numF, if_neg (by omega)]
    exact numF_nonneg r _ (fun x hx => h x (by simp [hx])) (by omega)
theorem numF_bad : ∀ (l : List UInt8) (n : Int) (b : UInt8), b ∈ l → ¬ digit b → numF l n = -1
  | x :: r, n, b, hb, hd => by
    rw [numF]
    split
    · rfl
    · rename_i hx
      rcases List.mem_cons.mp hb with rfl | hb
      · exact absurd (show digit b by unfold digit; omega) hd
      · exact numF_bad r _ b hb hd
theorem decFrom_numF : ∀ (l : List UInt8) (n : Nat), (∀ b ∈ l, digit b) → ∃ m : Nat, Lib.decFrom n l = some m ∧ numF l n = m
  | [], n, _ => ⟨n, rfl, rfl⟩
  | b :: r, n, h => by
    have hb := h b (by simp)
    obtain ⟨m, h1, h2⟩ := decFrom_numF r (n * 10 + (b.toNat - 48)) (fun x hx => h x (by simp [hx]))
    unfold digit at hb
    refine ⟨m, ?_, ?_⟩
    · simp only [Lib.decFrom, Lib.digitVal]
      rw [if_pos hb]
      exact h1
    · rw [numF, if_neg (by omega), ← h2]
      congr 1
      omega
theorem atoi_numF (l : List UInt8) (h : ∀ b ∈ l, digit b) (h0 : l ≠ []) : Lib.atoi l = some (numF l 0) := by
  obtain ⟨m, h1, h2⟩ := decFrom_numF l 0 h
  match l, h0 with
  | b :: r, _ =>
    have hb := h b (by simp)
    unfold digit at hb
    have n45 : (b == 45) = false := by
      rw [beq_eq_false_iff_ne]
      intro e
      subst e
      exact absurd hb (by decide)
    have n43 : (b == 43) = false := by
      rw [beq_eq_false_iff_ne]
      intro e
      subst e
      exact absurd hb (by decide)
    have h2' : numF (b :: r) 0 = (m : Int) := h2
    simp only [Lib.atoi, n45, n43, Bool.false_eq_true, if_false, Lib.decNat, List.isEmpty_cons, h1, Option.map_some, h2']

theorem get!_at (s : ByteArray) (i : Nat) (hi : i < s.size) : s.get! i = s[i] := by
  show s.data[i]! = s.data[i]
  exact getElem!_pos s.data i hi
theorem dec_low (s : ByteArray) (i : Nat) (hi : i < s.size) (h : s[i].toNat < 128) : Utf8.decode s i = (s[i].toNat, 1) := by
  unfold Utf8.decode
  simp only [Nat.add_zero, get!_at s i hi]
  rw [if_pos h]
theorem dec_high (s : ByteArray) (i : Nat) (hi : i < s.size) (h : ¬ s[i].toNat < 128) : 128 ≤ (Utf8.decode s i).1 := by
  unfold Utf8.decode
  simp only [Nat.add_zero, get!_at s i hi]
  rw [if_neg h]
  simp only [Utf8.runeError]
  repeat' split
  all_goals (try simp only [Bool.and_eq_true, decide_eq_true_eq] at *)
  all_goals omega

theorem und21 : Tryd.prog.underlying 21 = some (.int .i32) := by kernel_rfl
theorem data_nil (s : ByteArray) : (s.data.toList == []) = decide (s.size = 0) := by
  rw [Bool.eq_iff_iff, beq_iff_eq, decide_eq_true_eq]
  constructor
  · intro h
    show s.data.size = 0
    rw [← Array.length_toList, h]; rfl
  · intro h
    have : s.data.toList.length = 0 := by rw [Array.length_toList]; exact h
    exact List.eq_nil_of_length_eq_zero this
def numV (s : ByteArray) : AV := if numS s = -1 then .tuple [.int .i64 0, .bool false] else .tuple [.int .i64 (numS s), .bool true]
theorem rangeA_str {P : Program} {t : TypeId} (ht : P.underlying t = some .string) (s : ByteArray) (H : Heap) : rangeA P t (.str s) H = some (.iter H.next, H.new (.iter s 0)) := by
  simp [rangeA, ht]
theorem nextA_at {H : Heap} {b : Nat} {s : ByteArray} {i : Nat} (ho : H.objs b = .iter s i) (hi : i < s.size) :
    nextA (.iter b) H = some (.tuple [.bool true, .int .i64 i, .int .i32 (Utf8.decode s i).1], H.set b (.iter s (i + (Utf8.decode s i).2))) := by
  simp [nextA, ho, hi]
theorem nextA_end {H : Heap} {b : Nat} {s : ByteArray} {i : Nat} (ho : H.objs b = .iter s i) (hi : ¬ i < s.size) : nextA (.iter b) H = some (.tuple [.bool false], H) := by
  simp [nextA, ho, hi]

theorem number_runs (s : ByteArray) (H : Heap) : ∃ v H', Runs Tryd.prog noHints prims 32 [.str s] H v H' ∧ (v = numV s ∧ Gr H H') := by
  refine runs_of Tryd.prog noHints prims 32 [.tmp 2, .tmp 3] func32 rfl rfl rfl rfl rfl rfl ?_
  have hs : s.data.toList.length = s.size := Array.length_toList
  simp only [↓wpC_skip, ↓wpC_label, ↓wpC_seq, ↓wpC_cond, ↓wpC_block, ↓wpC_exit, ↓wpC_goto, ↓wpC_ret, ↓wpC_region, ↓wpC_draw, ↓wpC_loop, ↓wpC_scope, ↓wpR_nil, ↓wpR_cons, ↓wpR_guard, ↓wpD_box, ↓wpL_nil, ↓wpL_cons, ↓wpL_guard, ↓wpD_move, ↓wpD_assign, ↓wpD_pick, ↓wpD_binOp, ↓wpD_unOp, ↓wpD_builtin, ↓wpD_index, ↓wpD_indexAddr, ↓wpD_convert, ↓wpD_alloc, ↓wpD_load, ↓wpD_store, ↓wpD_nilCheck, ↓wpD_makeInterface, ↓wpD_makeFunc, ↓wpD_makeMap, ↓wpD_slice, ↓wpD_fieldAddr, ↓wpD_field, ↓wpD_lookup, ↓wpD_mapUpdate, ↓wpD_typeAssert, ↓wpD_extract, ↓wpD_range, ↓wpD_next, ↓wpD_build, ↓wpD_buildSlice, ↓wpD_call, ↓wpD_callv, Bd_some, Gd_true, Gd_false, seqK_normal, seqK_exit, seqK_goto, seqK_ret, blockK_normal, blockK_same, blockK_ne, blockK_goto, blockK_ret, dstOk_some, dstOk_none, Nat.reduceLT, true_and, dstAt_zero, dstAt_succ, putO_none, putO_some, ev_tm, ev_int, ev_bool, ev_str, ev_func, ev_nilptr, ev_nilslice, ev_nilmap, upd_at, Nat.reduceEqDiff, if_true, if_false, Option.bind_some, Option.map_some, boolOf_bool, noHints_freeze, noHints_heap, moveA_false, pickA_true, pickA_false, argsE_eq, partsA_eq, partsE, List.mapM_cons, List.mapM_nil, Option.pure_def, Option.bind_eq_bind, optA_none, optA_some, builtinA_len, builtinA_append, binOpA_lss, binOpA_leq, binOpA_gtr, binOpA_geq, binOpA_eql, binOpA_neq, binOpA_add, binOpA_sub, binOpA_mul, binOpA_seql, binOpA_sneq, unOpA_not, natOf_nat, natOf_int, Int.reduceLE, Int.reduceToNat, boundA_int, new_next, set_next, new_objs, set_objs, flat_int, flat_bool, flat_str, flat_agg, extractA_tuple, boundA_none, loadA_rptr, List.getElem?_cons_zero, List.getElem?_cons_succ, List.getD_cons_zero, List.getD_cons_succ, Nat.reduceBEq, Int.reduceBEq, Int.reduceBNe, Int.reduceLT, eq_self, Bool.false_eq_true, decide_true, decide_false, beqT, beqF, Gd_not, resE_one, resE_two, Bool.not_true, Bool.not_false, decide_true, decide_false, beq_self_eq_true, List.toList_toArray, data_nil]
  refine Gd_of (fun h1 => ?_) (fun h1 => ?_)
  · simp only [decide_eq_true_eq] at h1
    simp only [↓wpC_skip, ↓wpC_label, ↓wpC_seq, ↓wpC_cond, ↓wpC_block, ↓wpC_exit, ↓wpC_goto, ↓wpC_ret, ↓wpC_region, ↓wpC_draw, ↓wpC_loop, ↓wpC_scope, ↓wpR_nil, ↓wpR_cons, ↓wpR_guard, ↓wpD_box, ↓wpL_nil, ↓wpL_cons, ↓wpL_guard, ↓wpD_move, ↓wpD_assign, ↓wpD_pick, ↓wpD_binOp, ↓wpD_unOp, ↓wpD_builtin, ↓wpD_index, ↓wpD_indexAddr, ↓wpD_convert, ↓wpD_alloc, ↓wpD_load, ↓wpD_store, ↓wpD_nilCheck, ↓wpD_makeInterface, ↓wpD_makeFunc, ↓wpD_makeMap, ↓wpD_slice, ↓wpD_fieldAddr, ↓wpD_field, ↓wpD_lookup, ↓wpD_mapUpdate, ↓wpD_typeAssert, ↓wpD_extract, ↓wpD_range, ↓wpD_next, ↓wpD_build, ↓wpD_buildSlice, ↓wpD_call, ↓wpD_callv, Bd_some, Gd_true, Gd_false, seqK_normal, seqK_exit, seqK_goto, seqK_ret, blockK_normal, blockK_same, blockK_ne, blockK_goto, blockK_ret, dstOk_some, dstOk_none, Nat.reduceLT, true_and, dstAt_zero, dstAt_succ, putO_none, putO_some, ev_tm, ev_int, ev_bool, ev_str, ev_func, ev_nilptr, ev_nilslice, ev_nilmap, upd_at, Nat.reduceEqDiff, if_true, if_false, Option.bind_some, Option.map_some, boolOf_bool, noHints_freeze, noHints_heap, moveA_false, pickA_true, pickA_false, argsE_eq, partsA_eq, partsE, List.mapM_cons, List.mapM_nil, Option.pure_def, Option.bind_eq_bind, optA_none, optA_some, builtinA_len, builtinA_append, binOpA_lss, binOpA_leq, binOpA_gtr, binOpA_geq, binOpA_eql, binOpA_neq, binOpA_add, binOpA_sub, binOpA_mul, binOpA_seql, binOpA_sneq, unOpA_not, natOf_nat, natOf_int, Int.reduceLE, Int.reduceToNat, boundA_int, new_next, set_next, new_objs, set_objs, flat_int, flat_bool, flat_str, flat_agg, extractA_tuple, boundA_none, loadA_rptr, List.getElem?_cons_zero, List.getElem?_cons_succ, List.getD_cons_zero, List.getD_cons_succ, Nat.reduceBEq, Int.reduceBEq, Int.reduceBNe, Int.reduceLT, eq_self, Bool.false_eq_true, decide_true, decide_false, beqT, beqF, Gd_not, resE_one, resE_two, Bool.not_true, Bool.not_false, decide_true, decide_false, beq_self_eq_true, List.toList_toArray, h1, data_nil]
    simp [numV, numS, h1, Gr.refl]
  · simp only [decide_eq_false_iff_not] at h1
    have h1' : decide (s.size = 0) = false := by simpa using h1
    simp only [↓wpC_skip, ↓wpC_label, ↓wpC_seq, ↓wpC_cond, ↓wpC_block, ↓wpC_exit, ↓wpC_goto, ↓wpC_ret, ↓wpC_region, ↓wpC_draw, ↓wpC_loop, ↓wpC_scope, ↓wpR_nil, ↓wpR_cons, ↓wpR_guard, ↓wpD_box, ↓wpL_nil, ↓wpL_cons, ↓wpL_guard, ↓wpD_move, ↓wpD_assign, ↓wpD_pick, ↓wpD_binOp, ↓wpD_unOp, ↓wpD_builtin, ↓wpD_index, ↓wpD_indexAddr, ↓wpD_convert, ↓wpD_alloc, ↓wpD_load, ↓wpD_store, ↓wpD_nilCheck, ↓wpD_makeInterface, ↓wpD_makeFunc, ↓wpD_makeMap, ↓wpD_slice, ↓wpD_fieldAddr, ↓wpD_field, ↓wpD_lookup, ↓wpD_mapUpdate, ↓wpD_typeAssert, ↓wpD_extract, ↓wpD_range, ↓wpD_next, ↓wpD_build, ↓wpD_buildSlice, ↓wpD_call, ↓wpD_callv, Bd_some, Gd_true, Gd_false, seqK_normal, seqK_exit, seqK_goto, seqK_ret, blockK_normal, blockK_same, blockK_ne, blockK_goto, blockK_ret, dstOk_some, dstOk_none, Nat.reduceLT, true_and, dstAt_zero, dstAt_succ, putO_none, putO_some, ev_tm, ev_int, ev_bool, ev_str, ev_func, ev_nilptr, ev_nilslice, ev_nilmap, upd_at, Nat.reduceEqDiff, if_true, if_false, Option.bind_some, Option.map_some, boolOf_bool, noHints_freeze, noHints_heap, moveA_false, pickA_true, pickA_false, argsE_eq, partsA_eq, partsE, List.mapM_cons, List.mapM_nil, Option.pure_def, Option.bind_eq_bind, optA_none, optA_some, builtinA_len, builtinA_append, binOpA_lss, binOpA_leq, binOpA_gtr, binOpA_geq, binOpA_eql, binOpA_neq, binOpA_add, binOpA_sub, binOpA_mul, binOpA_seql, binOpA_sneq, unOpA_not, natOf_nat, natOf_int, Int.reduceLE, Int.reduceToNat, boundA_int, new_next, set_next, new_objs, set_objs, flat_int, flat_bool, flat_str, flat_agg, extractA_tuple, boundA_none, loadA_rptr, List.getElem?_cons_zero, List.getElem?_cons_succ, List.getD_cons_zero, List.getD_cons_succ, Nat.reduceBEq, Int.reduceBEq, Int.reduceBNe, Int.reduceLT, eq_self, Bool.false_eq_true, decide_true, decide_false, beqT, beqF, Gd_not, resE_one, resE_two, Bool.not_true, Bool.not_false, decide_true, decide_false, beq_self_eq_true, List.toList_toArray, h1', data_nil, lenA_str und9]
    refine Gd_of (fun h2 => ?_) (fun h2 => ?_)
    · simp only [↓wpC_skip, ↓wpC_label, ↓wpC_seq, ↓wpC_cond, ↓wpC_block, ↓wpC_exit, ↓wpC_goto, ↓wpC_ret, ↓wpC_region, ↓wpC_draw, ↓wpC_loop, ↓wpC_scope, ↓wpR_nil, ↓wpR_cons, ↓wpR_guard, ↓wpD_box, ↓wpL_nil, ↓wpL_cons, ↓wpL_guard, ↓wpD_move, ↓wpD_assign, ↓wpD_pick, ↓wpD_binOp, ↓wpD_unOp, ↓wpD_builtin, ↓wpD_index, ↓wpD_indexAddr, ↓wpD_convert, ↓wpD_alloc, ↓wpD_load, ↓wpD_store, ↓wpD_nilCheck, ↓wpD_makeInterface, ↓wpD_makeFunc, ↓wpD_makeMap, ↓wpD_slice, ↓wpD_fieldAddr, ↓wpD_field, ↓wpD_lookup, ↓wpD_mapUpdate, ↓wpD_typeAssert, ↓wpD_extract, ↓wpD_range, ↓wpD_next, ↓wpD_build, ↓wpD_buildSlice, ↓wpD_call, ↓wpD_callv, Bd_some, Gd_true, Gd_false, seqK_normal, seqK_exit, seqK_goto, seqK_ret, blockK_normal, blockK_same, blockK_ne, blockK_goto, blockK_ret, dstOk_some, dstOk_none, Nat.reduceLT, true_and, dstAt_zero, dstAt_succ, putO_none, putO_some, ev_tm, ev_int, ev_bool, ev_str, ev_func, ev_nilptr, ev_nilslice, ev_nilmap, upd_at, Nat.reduceEqDiff, if_true, if_false, Option.bind_some, Option.map_some, boolOf_bool, noHints_freeze, noHints_heap, moveA_false, pickA_true, pickA_false, argsE_eq, partsA_eq, partsE, List.mapM_cons, List.mapM_nil, Option.pure_def, Option.bind_eq_bind, optA_none, optA_some, builtinA_len, builtinA_append, binOpA_lss, binOpA_leq, binOpA_gtr, binOpA_geq, binOpA_eql, binOpA_neq, binOpA_add, binOpA_sub, binOpA_mul, binOpA_seql, binOpA_sneq, unOpA_not, natOf_nat, natOf_int, Int.reduceLE, Int.reduceToNat, boundA_int, new_next, set_next, new_objs, set_objs, flat_int, flat_bool, flat_str, flat_agg, extractA_tuple, boundA_none, loadA_rptr, List.getElem?_cons_zero, List.getElem?_cons_succ, List.getD_cons_zero, List.getD_cons_succ, Nat.reduceBEq, Int.reduceBEq, Int.reduceBNe, Int.reduceLT, eq_self, Bool.false_eq_true, decide_true, decide_false, beqT, beqF, Gd_not, resE_one, resE_two, Bool.not_true, Bool.not_false, decide_true, decide_false, beq_self_eq_true, List.toList_toArray, h2]
      simp only [decide_eq_true_eq] at h2
      simp [numV, numS, show 3 < s.size by omega, Gr.refl]
    · simp only [↓wpC_skip, ↓wpC_label, ↓wpC_seq, ↓wpC_cond, ↓wpC_block, ↓wpC_exit, ↓wpC_goto, ↓wpC_ret, ↓wpC_region, ↓wpC_draw, ↓wpC_loop, ↓wpC_scope, ↓wpR_nil, ↓wpR_cons, ↓wpR_guard, ↓wpD_box, ↓wpL_nil, ↓wpL_cons, ↓wpL_guard, ↓wpD_move, ↓wpD_assign, ↓wpD_pick, ↓wpD_binOp, ↓wpD_unOp, ↓wpD_builtin, ↓wpD_index, ↓wpD_indexAddr, ↓wpD_convert, ↓wpD_alloc, ↓wpD_load, ↓wpD_store, ↓wpD_nilCheck, ↓wpD_makeInterface, ↓wpD_makeFunc, ↓wpD_makeMap, ↓wpD_slice, ↓wpD_fieldAddr, ↓wpD_field, ↓wpD_lookup, ↓wpD_mapUpdate, ↓wpD_typeAssert, ↓wpD_extract, ↓wpD_range, ↓wpD_next, ↓wpD_build, ↓wpD_buildSlice, ↓wpD_call, ↓wpD_callv, Bd_some, Gd_true, Gd_false, seqK_normal, seqK_exit, seqK_goto, seqK_ret, blockK_normal, blockK_same, blockK_ne, blockK_goto, blockK_ret, dstOk_some, dstOk_none, Nat.reduceLT, true_and, dstAt_zero, dstAt_succ, putO_none, putO_some, ev_tm, ev_int, ev_bool, ev_str, ev_func, ev_nilptr, ev_nilslice, ev_nilmap, upd_at, Nat.reduceEqDiff, if_true, if_false, Option.bind_some, Option.map_some, boolOf_bool, noHints_freeze, noHints_heap, moveA_false, pickA_true, pickA_false, argsE_eq, partsA_eq, partsE, List.mapM_cons, List.mapM_nil, Option.pure_def, Option.bind_eq_bind, optA_none, optA_some, builtinA_len, builtinA_append, binOpA_lss, binOpA_leq, binOpA_gtr, binOpA_geq, binOpA_eql, binOpA_neq, binOpA_add, binOpA_sub, binOpA_mul, binOpA_seql, binOpA_sneq, unOpA_not, natOf_nat, natOf_int, Int.reduceLE, Int.reduceToNat, boundA_int, new_next, set_next, new_objs, set_objs, flat_int, flat_bool, flat_str, flat_agg, extractA_tuple, boundA_none, loadA_rptr, List.getElem?_cons_zero, List.getElem?_cons_succ, List.getD_cons_zero, List.getD_cons_succ, Nat.reduceBEq, Int.reduceBEq, Int.reduceBNe, Int.reduceLT, eq_self, Bool.false_eq_true, decide_true, decide_false, beqT, beqF, Gd_not, resE_one, resE_two, Bool.not_true, Bool.not_false, decide_true, decide_false, beq_self_eq_true, List.toList_toArray, h2, rangeA_str und9]
      simp only [decide_eq_false_iff_not] at h2
      have hnum : numS s = numF s.data.toList 0 := by unfold numS; rw [if_neg (by omega)]
      refine wpT_loop (fun (i : Nat) g H' => g 0 = .str s ∧ g 16 = .iter H.next ∧ i ≤ s.size ∧ Gr H H' ∧ H'.objs H.next = .iter s i ∧ (∀ j, j < i → ∀ b, s.data.toList[j]? = some b → digit b)) (fun i => s.size - i) 0
        ⟨rfl, rfl, by omega, (Gr.refl H).new _, ?_, fun j hj => by omega⟩ ?_
      · rw [new_objs, if_pos rfl]
      · rintro i g H' ⟨g0, g16, hi, hG, ho, hd⟩
        by_cases hi' : i < s.size
        · have hat : s.data.toList[i]? = some s[i] := by
            rw [List.getElem?_eq_getElem (by omega)]; rfl
          have hmem : s[i] ∈ s.data.toList := List.mem_of_getElem? hat
          simp only [↓wpC_skip, ↓wpC_label, ↓wpC_seq, ↓wpC_cond, ↓wpC_block, ↓wpC_exit, ↓wpC_goto, ↓wpC_ret, ↓wpC_region, ↓wpC_draw, ↓wpC_loop, ↓wpC_scope, ↓wpR_nil, ↓wpR_cons, ↓wpR_guard, ↓wpD_box, ↓wpL_nil, ↓wpL_cons, ↓wpL_guard, ↓wpD_move, ↓wpD_assign, ↓wpD_pick, ↓wpD_binOp, ↓wpD_unOp, ↓wpD_builtin, ↓wpD_index, ↓wpD_indexAddr, ↓wpD_convert, ↓wpD_alloc, ↓wpD_load, ↓wpD_store, ↓wpD_nilCheck, ↓wpD_makeInterface, ↓wpD_makeFunc, ↓wpD_makeMap, ↓wpD_slice, ↓wpD_fieldAddr, ↓wpD_field, ↓wpD_lookup, ↓wpD_mapUpdate, ↓wpD_typeAssert, ↓wpD_extract, ↓wpD_range, ↓wpD_next, ↓wpD_build, ↓wpD_buildSlice, ↓wpD_call, ↓wpD_callv, Bd_some, Gd_true, Gd_false, seqK_normal, seqK_exit, seqK_goto, seqK_ret, blockK_normal, blockK_same, blockK_ne, blockK_goto, blockK_ret, dstOk_some, dstOk_none, Nat.reduceLT, true_and, dstAt_zero, dstAt_succ, putO_none, putO_some, ev_tm, ev_int, ev_bool, ev_str, ev_func, ev_nilptr, ev_nilslice, ev_nilmap, upd_at, Nat.reduceEqDiff, if_true, if_false, Option.bind_some, Option.map_some, boolOf_bool, noHints_freeze, noHints_heap, moveA_false, pickA_true, pickA_false, argsE_eq, partsA_eq, partsE, List.mapM_cons, List.mapM_nil, Option.pure_def, Option.bind_eq_bind, optA_none, optA_some, builtinA_len, builtinA_append, binOpA_lss, binOpA_leq, binOpA_gtr, binOpA_geq, binOpA_eql, binOpA_neq, binOpA_add, binOpA_sub, binOpA_mul, binOpA_seql, binOpA_sneq, unOpA_not, natOf_nat, natOf_int, Int.reduceLE, Int.reduceToNat, boundA_int, new_next, set_next, new_objs, set_objs, flat_int, flat_bool, flat_str, flat_agg, extractA_tuple, boundA_none, loadA_rptr, List.getElem?_cons_zero, List.getElem?_cons_succ, List.getD_cons_zero, List.getD_cons_succ, Nat.reduceBEq, Int.reduceBEq, Int.reduceBNe, Int.reduceLT, eq_self, Bool.false_eq_true, decide_true, decide_false, beqT, beqF, Gd_not, resE_one, resE_two, Bool.not_true, Bool.not_false, decide_true, decide_false, beq_self_eq_true, List.toList_toArray, g16, nextA_at ho hi']
          by_cases hlow : s[i].toNat < 128
          · rw [dec_low s i hi' hlow]
            refine Gd_of (fun h3 => ?_) (fun h3 => ?_)
            · simp only [↓wpC_skip, ↓wpC_label, ↓wpC_seq, ↓wpC_cond, ↓wpC_block, ↓wpC_exit, ↓wpC_goto, ↓wpC_ret, ↓wpC_region, ↓wpC_draw, ↓wpC_loop, ↓wpC_scope, ↓wpR_nil, ↓wpR_cons, ↓wpR_guard, ↓wpD_box, ↓wpL_nil, ↓wpL_cons, ↓wpL_guard, ↓wpD_move, ↓wpD_assign, ↓wpD_pick, ↓wpD_binOp, ↓wpD_unOp, ↓wpD_builtin, ↓wpD_index, ↓wpD_indexAddr, ↓wpD_convert, ↓wpD_alloc, ↓wpD_load, ↓wpD_store, ↓wpD_nilCheck, ↓wpD_makeInterface, ↓wpD_makeFunc, ↓wpD_makeMap, ↓wpD_slice, ↓wpD_fieldAddr, ↓wpD_field, ↓wpD_lookup, ↓wpD_mapUpdate, ↓wpD_typeAssert, ↓wpD_extract, ↓wpD_range, ↓wpD_next, ↓wpD_build, ↓wpD_buildSlice, ↓wpD_call, ↓wpD_callv, Bd_some, Gd_true, Gd_false, seqK_normal, seqK_exit, seqK_goto, seqK_ret, blockK_normal, blockK_same, blockK_ne, blockK_goto, blockK_ret, dstOk_some, dstOk_none, Nat.reduceLT, true_and, dstAt_zero, dstAt_succ, putO_none, putO_some, ev_tm, ev_int, ev_bool, ev_str, ev_func, ev_nilptr, ev_nilslice, ev_nilmap, upd_at, Nat.reduceEqDiff, if_true, if_false, Option.bind_some, Option.map_some, boolOf_bool, noHints_freeze, noHints_heap, moveA_false, pickA_true, pickA_false, argsE_eq, partsA_eq, partsE, List.mapM_cons, List.mapM_nil, Option.pure_def, Option.bind_eq_bind, optA_none, optA_some, builtinA_len, builtinA_append, binOpA_lss, binOpA_leq, binOpA_gtr, binOpA_geq, binOpA_eql, binOpA_neq, binOpA_add, binOpA_sub, binOpA_mul, binOpA_seql, binOpA_sneq, unOpA_not, natOf_nat, natOf_int, Int.reduceLE, Int.reduceToNat, boundA_int, new_next, set_next, new_objs, set_objs, flat_int, flat_bool, flat_str, flat_agg, extractA_tuple, boundA_none, loadA_rptr, List.getElem?_cons_zero, List.getElem?_cons_succ, List.getD_cons_zero, List.getD_cons_succ, Nat.reduceBEq, Int.reduceBEq, Int.reduceBNe, Int.reduceLT, eq_self, Bool.false_eq_true, decide_true, decide_false, beqT, beqF, Gd_not, resE_one, resE_two, Bool.not_true, Bool.not_false, decide_true, decide_false, beq_self_eq_true, List.toList_toArray, h3]
              simp only [decide_eq_true_eq] at h3
              have : numS s = -1 := by rw [hnum]; exact numF_bad _ _ _ hmem (by unfold digit; omega)
              simp [numV, this, hG.set (Nat.le_refl _)]
            · simp only [↓wpC_skip, ↓wpC_label, ↓wpC_seq, ↓wpC_cond, ↓wpC_block, ↓wpC_exit, ↓wpC_goto, ↓wpC_ret, ↓wpC_region, ↓wpC_draw, ↓wpC_loop, ↓wpC_scope, ↓wpR_nil, ↓wpR_cons, ↓wpR_guard, ↓wpD_box, ↓wpL_nil, ↓wpL_cons, ↓wpL_guard, ↓wpD_move, ↓wpD_assign, ↓wpD_pick, ↓wpD_binOp, ↓wpD_unOp, ↓wpD_builtin, ↓wpD_index, ↓wpD_indexAddr, ↓wpD_convert, ↓wpD_alloc, ↓wpD_load, ↓wpD_store, ↓wpD_nilCheck, ↓wpD_makeInterface, ↓wpD_makeFunc, ↓wpD_makeMap, ↓wpD_slice, ↓wpD_fieldAddr, ↓wpD_field, ↓wpD_lookup, ↓wpD_mapUpdate, ↓wpD_typeAssert, ↓wpD_extract, ↓wpD_range, ↓wpD_next, ↓wpD_build, ↓wpD_buildSlice, ↓wpD_call, ↓wpD_callv, Bd_some, Gd_true, Gd_false, seqK_normal, seqK_exit, seqK_goto, seqK_ret, blockK_normal, blockK_same, blockK_ne, blockK_goto, blockK_ret, dstOk_some, dstOk_none, Nat.reduceLT, true_and, dstAt_zero, dstAt_succ, putO_none, putO_some, ev_tm, ev_int, ev_bool, ev_str, ev_func, ev_nilptr, ev_nilslice, ev_nilmap, upd_at, Nat.reduceEqDiff, if_true, if_false, Option.bind_some, Option.map_some, boolOf_bool, noHints_freeze, noHints_heap, moveA_false, pickA_true, pickA_false, argsE_eq, partsA_eq, partsE, List.mapM_cons, List.mapM_nil, Option.pure_def, Option.bind_eq_bind, optA_none, optA_some, builtinA_len, builtinA_append, binOpA_lss, binOpA_leq, binOpA_gtr, binOpA_geq, binOpA_eql, binOpA_neq, binOpA_add, binOpA_sub, binOpA_mul, binOpA_seql, binOpA_sneq, unOpA_not, natOf_nat, natOf_int, Int.reduceLE, Int.reduceToNat, boundA_int, new_next, set_next, new_objs, set_objs, flat_int, flat_bool, flat_str, flat_agg, extractA_tuple, boundA_none, loadA_rptr, List.getElem?_cons_zero, List.getElem?_cons_succ, List.getD_cons_zero, List.getD_cons_succ, Nat.reduceBEq, Int.reduceBEq, Int.reduceBNe, Int.reduceLT, eq_self, Bool.false_eq_true, decide_true, decide_false, beqT, beqF, Gd_not, resE_one, resE_two, Bool.not_true, Bool.not_false, decide_true, decide_false, beq_self_eq_true, List.toList_toArray, h3]
              simp only [decide_eq_false_iff_not] at h3
              refine Gd_of (fun h4 => ?_) (fun h4 => ?_)
              · simp only [↓wpC_skip, ↓wpC_label, ↓wpC_seq, ↓wpC_cond, ↓wpC_block, ↓wpC_exit, ↓wpC_goto, ↓wpC_ret, ↓wpC_region, ↓wpC_draw, ↓wpC_loop, ↓wpC_scope, ↓wpR_nil, ↓wpR_cons, ↓wpR_guard, ↓wpD_box, ↓wpL_nil, ↓wpL_cons, ↓wpL_guard, ↓wpD_move, ↓wpD_assign, ↓wpD_pick, ↓wpD_binOp, ↓wpD_unOp, ↓wpD_builtin, ↓wpD_index, ↓wpD_indexAddr, ↓wpD_convert, ↓wpD_alloc, ↓wpD_load, ↓wpD_store, ↓wpD_nilCheck, ↓wpD_makeInterface, ↓wpD_makeFunc, ↓wpD_makeMap, ↓wpD_slice, ↓wpD_fieldAddr, ↓wpD_field, ↓wpD_lookup, ↓wpD_mapUpdate, ↓wpD_typeAssert, ↓wpD_extract, ↓wpD_range, ↓wpD_next, ↓wpD_build, ↓wpD_buildSlice, ↓wpD_call, ↓wpD_callv, Bd_some, Gd_true, Gd_false, seqK_normal, seqK_exit, seqK_goto, seqK_ret, blockK_normal, blockK_same, blockK_ne, blockK_goto, blockK_ret, dstOk_some, dstOk_none, Nat.reduceLT, true_and, dstAt_zero, dstAt_succ, putO_none, putO_some, ev_tm, ev_int, ev_bool, ev_str, ev_func, ev_nilptr, ev_nilslice, ev_nilmap, upd_at, Nat.reduceEqDiff, if_true, if_false, Option.bind_some, Option.map_some, boolOf_bool, noHints_freeze, noHints_heap, moveA_false, pickA_true, pickA_false, argsE_eq, partsA_eq, partsE, List.mapM_cons, List.mapM_nil, Option.pure_def, Option.bind_eq_bind, optA_none, optA_some, builtinA_len, builtinA_append, binOpA_lss, binOpA_leq, binOpA_gtr, binOpA_geq, binOpA_eql, binOpA_neq, binOpA_add, binOpA_sub, binOpA_mul, binOpA_seql, binOpA_sneq, unOpA_not, natOf_nat, natOf_int, Int.reduceLE, Int.reduceToNat, boundA_int, new_next, set_next, new_objs, set_objs, flat_int, flat_bool, flat_str, flat_agg, extractA_tuple, boundA_none, loadA_rptr, List.getElem?_cons_zero, List.getElem?_cons_succ, List.getD_cons_zero, List.getD_cons_succ, Nat.reduceBEq, Int.reduceBEq, Int.reduceBNe, Int.reduceLT, eq_self, Bool.false_eq_true, decide_true, decide_false, beqT, beqF, Gd_not, resE_one, resE_two, Bool.not_true, Bool.not_false, decide_true, decide_false, beq_self_eq_true, List.toList_toArray, h4]
                simp only [decide_eq_true_eq] at h4
                have : numS s = -1 := by rw [hnum]; exact numF_bad _ _ _ hmem (by unfold digit; omega)
                simp [numV, this, hG.set (Nat.le_refl _)]
              · try simp only [↓wpC_skip, ↓wpC_label, ↓wpC_seq, ↓wpC_cond, ↓wpC_block, ↓wpC_exit, ↓wpC_goto, ↓wpC_ret, ↓wpC_region, ↓wpC_draw, ↓wpC_loop, ↓wpC_scope, ↓wpR_nil, ↓wpR_cons, ↓wpR_guard, ↓wpD_box, ↓wpL_nil, ↓wpL_cons, ↓wpL_guard, ↓wpD_move, ↓wpD_assign, ↓wpD_pick, ↓wpD_binOp, ↓wpD_unOp, ↓wpD_builtin, ↓wpD_index, ↓wpD_indexAddr, ↓wpD_convert, ↓wpD_alloc, ↓wpD_load, ↓wpD_store, ↓wpD_nilCheck, ↓wpD_makeInterface, ↓wpD_makeFunc, ↓wpD_makeMap, ↓wpD_slice, ↓wpD_fieldAddr, ↓wpD_field, ↓wpD_lookup, ↓wpD_mapUpdate, ↓wpD_typeAssert, ↓wpD_extract, ↓wpD_range, ↓wpD_next, ↓wpD_build, ↓wpD_buildSlice, ↓wpD_call, ↓wpD_callv, Bd_some, Gd_true, Gd_false, seqK_normal, seqK_exit, seqK_goto, seqK_ret, blockK_normal, blockK_same, blockK_ne, blockK_goto, blockK_ret, dstOk_some, dstOk_none, Nat.reduceLT, true_and, dstAt_zero, dstAt_succ, putO_none, putO_some, ev_tm, ev_int, ev_bool, ev_str, ev_func, ev_nilptr, ev_nilslice, ev_nilmap, upd_at, Nat.reduceEqDiff, if_true, if_false, Option.bind_some, Option.map_some, boolOf_bool, noHints_freeze, noHints_heap, moveA_false, pickA_true, pickA_false, argsE_eq, partsA_eq, partsE, List.mapM_cons, List.mapM_nil, Option.pure_def, Option.bind_eq_bind, optA_none, optA_some, builtinA_len, builtinA_append, binOpA_lss, binOpA_leq, binOpA_gtr, binOpA_geq, binOpA_eql, binOpA_neq, binOpA_add, binOpA_sub, binOpA_mul, binOpA_seql, binOpA_sneq, unOpA_not, natOf_nat, natOf_int, Int.reduceLE, Int.reduceToNat, boundA_int, new_next, set_next, new_objs, set_objs, flat_int, flat_bool, flat_str, flat_agg, extractA_tuple, boundA_none, loadA_rptr, List.getElem?_cons_zero, List.getElem?_cons_succ, List.getD_cons_zero, List.getD_cons_succ, Nat.reduceBEq, Int.reduceBEq, Int.reduceBNe, Int.reduceLT, eq_self, Bool.false_eq_true, decide_true, decide_false, beqT, beqF, Gd_not, resE_one, resE_two, Bool.not_true, Bool.not_false, decide_true, decide_false, beq_self_eq_true, List.toList_toArray, h4]
                simp only [decide_eq_false_iff_not] at h4
                refine Again.mk (i + 1) ⟨g0, g16, by omega, hG.set (Nat.le_refl _) _, ?_, ?_⟩ (by omega)
                · rw [set_objs, if_pos rfl]
                · intro j hj b hb
                  by_cases hji : j = i
                  · subst hji
                    rw [hat] at hb
                    cases hb
                    unfold digit; omega
                  · exact hd j (by omega) b hb
          · have hh := dec_high s i hi' hlow
            have : numS s = -1 := by rw [hnum]; exact numF_bad _ _ _ hmem (by unfold digit; omega)
            have e1 : decide (((Utf8.decode s i).1 : Int) < 48) = false := by simp; omega
            have e2 : decide ((57 : Int) < ((Utf8.decode s i).1 : Int)) = true := by simp; omega
            simp only [↓wpC_skip, ↓wpC_label, ↓wpC_seq, ↓wpC_cond, ↓wpC_block, ↓wpC_exit, ↓wpC_goto, ↓wpC_ret, ↓wpC_region, ↓wpC_draw, ↓wpC_loop, ↓wpC_scope, ↓wpR_nil, ↓wpR_cons, ↓wpR_guard, ↓wpD_box, ↓wpL_nil, ↓wpL_cons, ↓wpL_guard, ↓wpD_move, ↓wpD_assign, ↓wpD_pick, ↓wpD_binOp, ↓wpD_unOp, ↓wpD_builtin, ↓wpD_index, ↓wpD_indexAddr, ↓wpD_convert, ↓wpD_alloc, ↓wpD_load, ↓wpD_store, ↓wpD_nilCheck, ↓wpD_makeInterface, ↓wpD_makeFunc, ↓wpD_makeMap, ↓wpD_slice, ↓wpD_fieldAddr, ↓wpD_field, ↓wpD_lookup, ↓wpD_mapUpdate, ↓wpD_typeAssert, ↓wpD_extract, ↓wpD_range, ↓wpD_next, ↓wpD_build, ↓wpD_buildSlice, ↓wpD_call, ↓wpD_callv, Bd_some, Gd_true, Gd_false, seqK_normal, seqK_exit, seqK_goto, seqK_ret, blockK_normal, blockK_same, blockK_ne, blockK_goto, blockK_ret, dstOk_some, dstOk_none, Nat.reduceLT, true_and, dstAt_zero, dstAt_succ, putO_none, putO_some, ev_tm, ev_int, ev_bool, ev_str, ev_func, ev_nilptr, ev_nilslice, ev_nilmap, upd_at, Nat.reduceEqDiff, if_true, if_false, Option.bind_some, Option.map_some, boolOf_bool, noHints_freeze, noHints_heap, moveA_false, pickA_true, pickA_false, argsE_eq, partsA_eq, partsE, List.mapM_cons, List.mapM_nil, Option.pure_def, Option.bind_eq_bind, optA_none, optA_some, builtinA_len, builtinA_append, binOpA_lss, binOpA_leq, binOpA_gtr, binOpA_geq, binOpA_eql, binOpA_neq, binOpA_add, binOpA_sub, binOpA_mul, binOpA_seql, binOpA_sneq, unOpA_not, natOf_nat, natOf_int, Int.reduceLE, Int.reduceToNat, boundA_int, new_next, set_next, new_objs, set_objs, flat_int, flat_bool, flat_str, flat_agg, extractA_tuple, boundA_none, loadA_rptr, List.getElem?_cons_zero, List.getElem?_cons_succ, List.getD_cons_zero, List.getD_cons_succ, Nat.reduceBEq, Int.reduceBEq, Int.reduceBNe, Int.reduceLT, eq_self, Bool.false_eq_true, decide_true, decide_false, beqT, beqF, Gd_not, resE_one, resE_two, Bool.not_true, Bool.not_false, decide_true, decide_false, beq_self_eq_true, List.toList_toArray, e1, e2]
            simp [numV, this, hG.set (Nat.le_refl _)]
        · have hii : i = s.size := by omega
          have hall : ∀ b ∈ s.data.toList, digit b := by
            intro b hb
            obtain ⟨j, hj⟩ := List.getElem?_of_mem hb
            have := (List.getElem?_eq_some_iff.mp hj).1
            exact hd j (by omega) b hj
          have hne : s.data.toList ≠ [] := by
            intro e
            rw [e] at hs
            simp at hs; omega
          have hat := atoi_numF _ hall hne
          have hr : Runs Tryd.prog noHints prims 43 [.str s] H' (.tuple [.int .i64 (numF s.data.toList 0), .nilIface]) H' := runs_prim (p := pAtoi) rfl (by
            simp only [pAtoi]
            rw [if_pos (by omega), hat])
          simp only [↓wpC_skip, ↓wpC_label, ↓wpC_seq, ↓wpC_cond, ↓wpC_block, ↓wpC_exit, ↓wpC_goto, ↓wpC_ret, ↓wpC_region, ↓wpC_draw, ↓wpC_loop, ↓wpC_scope, ↓wpR_nil, ↓wpR_cons, ↓wpR_guard, ↓wpD_box, ↓wpL_nil, ↓wpL_cons, ↓wpL_guard, ↓wpD_move, ↓wpD_assign, ↓wpD_pick, ↓wpD_binOp, ↓wpD_unOp, ↓wpD_builtin, ↓wpD_index, ↓wpD_indexAddr, ↓wpD_convert, ↓wpD_alloc, ↓wpD_load, ↓wpD_store, ↓wpD_nilCheck, ↓wpD_makeInterface, ↓wpD_makeFunc, ↓wpD_makeMap, ↓wpD_slice, ↓wpD_fieldAddr, ↓wpD_field, ↓wpD_lookup, ↓wpD_mapUpdate, ↓wpD_typeAssert, ↓wpD_extract, ↓wpD_range, ↓wpD_next, ↓wpD_build, ↓wpD_buildSlice, ↓wpD_call, ↓wpD_callv, Bd_some, Gd_true, Gd_false, seqK_normal, seqK_exit, seqK_goto, seqK_ret, blockK_normal, blockK_same, blockK_ne, blockK_goto, blockK_ret, dstOk_some, dstOk_none, Nat.reduceLT, true_and, dstAt_zero, dstAt_succ, putO_none, putO_some, ev_tm, ev_int, ev_bool, ev_str, ev_func, ev_nilptr, ev_nilslice, ev_nilmap, upd_at, Nat.reduceEqDiff, if_true, if_false, Option.bind_some, Option.map_some, boolOf_bool, noHints_freeze, noHints_heap, moveA_false, pickA_true, pickA_false, argsE_eq, partsA_eq, partsE, List.mapM_cons, List.mapM_nil, Option.pure_def, Option.bind_eq_bind, optA_none, optA_some, builtinA_len, builtinA_append, binOpA_lss, binOpA_leq, binOpA_gtr, binOpA_geq, binOpA_eql, binOpA_neq, binOpA_add, binOpA_sub, binOpA_mul, binOpA_seql, binOpA_sneq, unOpA_not, natOf_nat, natOf_int, Int.reduceLE, Int.reduceToNat, boundA_int, new_next, set_next, new_objs, set_objs, flat_int, flat_bool, flat_str, flat_agg, extractA_tuple, boundA_none, loadA_rptr, List.getElem?_cons_zero, List.getElem?_cons_succ, List.getD_cons_zero, List.getD_cons_succ, Nat.reduceBEq, Int.reduceBEq, Int.reduceBNe, Int.reduceLT, eq_self, Bool.false_eq_true, decide_true, decide_false, beqT, beqF, Gd_not, resE_one, resE_two, Bool.not_true, Bool.not_false, decide_true, decide_false, beq_self_eq_true, List.toList_toArray, g16, g0, nextA_end ho hi', wpCall_eq hr]
          have hge := numF_nonneg _ 0 hall (by omega)
          have : numS s ≠ -1 := by rw [hnum]; omega
          rw [hnum] at this
          simp [numV, this, hnum, hG]
end Go.Proofs.Tryd
