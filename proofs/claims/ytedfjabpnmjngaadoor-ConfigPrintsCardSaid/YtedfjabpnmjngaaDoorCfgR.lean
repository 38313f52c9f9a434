/- Print, of both; what is printed is read as it was. -/
import Derived.Test.YtedfjabpnmjngaaDoorCfgQ
set_option linter.unusedSimpArgs false
set_option linter.unusedVariables false
namespace Go.Proofs.Tryd
open Go Go.AM

/- PLAIN -/
def onAt (c : Cfg) (j : Nat) : Bool := c.on.getD j false
def pr1 (c : Cfg) (k : Nat) : List UInt8 := (List.range k).flatMap fun j => line1 j (onAt c (j + 1))
def numAt (c : Cfg) (j : Nat) : Int := [c.w, c.st, c.em, c.de].getD j 0
def nmb (j : Nat) : List UInt8 := (numbersL.getD j ⟨#[]⟩).data.toList
def line3 (j : Nat) (n : Int) : List UInt8 := nmb j ++ [32] ++ digF 2 n.toNat ++ [10]
def pr2 (c : Cfg) (k : Nat) : List UInt8 := (List.range k).flatMap fun j => line3 j (numAt c j)
def printL (c : Cfg) : List UInt8 := pr1 c 9 ++ pr2 c 4
def Nums (c : Cfg) : Prop := ∀ j, j < 4 → 0 ≤ numAt c j ∧ numAt c j ≤ 500

theorem flat_succ {α : Type} (f : Nat → List α) (k : Nat) : (List.range (k + 1)).flatMap f = (List.range k).flatMap f ++ f k := by
  rw [List.range_succ, List.flatMap_append]; simp
theorem pr1_len (c : Cfg) (k : Nat) (hk : k ≤ 9) : (pr1 c k).length ≤ 10 * k := by
  induction k with
  | zero => simp [pr1]
  | succ k ih =>
    have := line1_len k (by omega) (onAt c (k + 1))
    have := ih (by omega)
    unfold pr1 at this ⊢
    rw [flat_succ, List.length_append]; omega
theorem nmb_len (j : Nat) (hj : j < 4) : (nmb j).length ≤ 6 := by
  match j, hj with
  | 0, _ | 1, _ | 2, _ | 3, _ => decide
theorem pr2_len (c : Cfg) (k : Nat) (hk : k ≤ 4) : (pr2 c k).length ≤ 11 * k := by
  induction k with
  | zero => simp [pr2]
  | succ k ih =>
    have h1 := nmb_len k (by omega)
    have h2 := digF_len 2 (numAt c k).toNat
    have h5 : (line3 k (numAt c k)).length ≤ 11 := by
      simp only [line3, List.length_append, List.length_cons, List.length_nil]
      omega
    have := ih (by omega)
    unfold pr2 at this ⊢
    rw [flat_succ, List.length_append]
    omega
theorem dec_digF : ∀ k n, n < 10 ^ (k + 1) → Lib.decDigits n = digF k n
  | 0, n, h => by rw [Lib.decDigits, dif_pos (by simpa using h)]; rfl
  | k + 1, n, h => by
    by_cases hn : n < 10
    · rw [Lib.decDigits, dif_pos hn, digF, if_pos hn]
    · rw [Lib.decDigits, dif_neg hn, digF, if_neg hn, dec_digF k (n / 10)]
      rw [Nat.div_lt_iff_lt_mul (by omega)]
      rw [Nat.pow_succ] at h
      exact h
theorem itoa_digF {n : Int} (h0 : 0 ≤ n) (h1 : n ≤ 500) : Lib.itoa n = digF 2 n.toNat := by
  unfold Lib.itoa
  rw [if_neg (by omega), dec_digF 2 n.toNat (by omega)]
theorem digs (n : Nat) (h : n ≤ 500) : numS (tx (digF 2 n)) = (n : Int) ∧ digF 2 n ≠ [] ∧ ∀ b ∈ digF 2 n, bl b = false ∧ b ≠ 10 := by
  have key : ∀ n, n < 501 → numS (tx (digF 2 n)) = (n : Int) ∧ digF 2 n ≠ [] ∧ ∀ b ∈ digF 2 n, bl b = false ∧ b ≠ 10 := by decide +kernel
  exact key n (by omega)
theorem words2 {a b : List UInt8} (ha : a ≠ []) (hb : b ≠ []) (h1 : ∀ x ∈ a, bl x = false) (h2 : ∀ x ∈ b, bl x = false) : wordsGo [] (a ++ [32] ++ b) = [a, b] := by
  rw [List.append_assoc, wordsGo_skip a [] _ h1, List.nil_append, List.singleton_append, wordsGo]
  have : bl 32 = true := rfl
  rw [this, if_pos rfl, if_neg ha]
  have := wordsGo_skip b [] [] h2
  rw [List.append_nil] at this
  rw [this, List.nil_append, wordsGo, if_neg hb]
  rfl
theorem lineL3 (j : Nat) (hj : j < 4) (n : Nat) (hn : n ≤ 500) (c : Cfg) : lineL c (nmb j ++ [32] ++ digF 2 n) = some (setNum c (10 + j) n) := by
  obtain ⟨h1, h2, h3⟩ := digs n hn
  have h4 : nmb j ≠ [] ∧ (∀ x ∈ nmb j, bl x = false) ∧ ruleOf (tx (nmb j)) = none ∧ placeN (tx (nmb j)) = some (10 + j) := by
    match j, hj with
    | 0, _ | 1, _ | 2, _ | 3, _ => decide +kernel
  unfold lineL
  rw [words2 h4.1 h2 h4.2.1 (fun x hx => (h3 x hx).1)]
  simp only [List.map_cons, List.map_nil, lineN, h4.2.2.1, h4.2.2.2, h1]
  rw [if_neg (by omega)]
theorem line3_nl (j : Nat) (hj : j < 4) (n : Nat) (hn : n ≤ 500) : ∀ x ∈ nmb j ++ [32] ++ digF 2 n, x ≠ 10 := by
  obtain ⟨_, _, h3⟩ := digs n hn
  have h4 : ∀ x ∈ nmb j ++ [32], x ≠ 10 := by
    match j, hj with
    | 0, _ | 1, _ | 2, _ | 3, _ => decide
  intro x hx
  rcases List.mem_append.mp hx with h | h
  · exact h4 x h
  · exact (h3 x h).2

/-- Rules, one behind the other; then numbers. -/
theorem read_pr1 (g c : Cfg) (r : List UInt8) : readL c (linesL (pr1 g 9 ++ r)) = readL ((List.range 9).foldl (fun c j => setOn j c (onAt g (j + 1))) c) (linesL r) := by
  have key : ∀ (l : List Nat) (c : Cfg), (∀ j ∈ l, j < 9) → readL c (linesL ((l.flatMap fun j => line1 j (onAt g (j + 1))) ++ r)) = readL (l.foldl (fun c j => setOn j c (onAt g (j + 1))) c) (linesL r) := by
    intro l
    induction l with
    | nil => intro c _; rfl
    | cons j l ih =>
      intro c h
      have e : ((j :: l).flatMap fun j => line1 j (onAt g (j + 1))) ++ r = (nml j ++ [32] ++ onW (onAt g (j + 1))) ++ 10 :: ((l.flatMap fun j => line1 j (onAt g (j + 1))) ++ r) := by simp [line1]
      have hj := h j (by simp)
      rw [e, readL_line (nml_nl j hj _) (lineL1 j hj _ c), ih _ (fun i hi => h i (by simp [hi]))]
      rfl
  exact key _ c (fun j hj => by simpa using hj)
theorem read_pr2 (g c : Cfg) (hn : Nums g) : readL c (linesL (pr2 g 4)) = some ((List.range 4).foldl (fun c j => setNum c (10 + j) (numAt g j)) c) := by
  have key : ∀ (l : List Nat) (c : Cfg), (∀ j ∈ l, j < 4) → readL c (linesL (l.flatMap fun j => line3 j (numAt g j))) = some (l.foldl (fun c j => setNum c (10 + j) (numAt g j)) c) := by
    intro l
    induction l with
    | nil => intro c _; rfl
    | cons j l ih =>
      intro c h
      have hj := h j (by simp)
      obtain ⟨n0, n5⟩ := hn j hj
      have e : ((j :: l).flatMap fun j => line3 j (numAt g j)) = (nmb j ++ [32] ++ digF 2 (numAt g j).toNat) ++ 10 :: (l.flatMap fun j => line3 j (numAt g j)) := by simp [line3]
      rw [e, readL_line (line3_nl j hj _ (by omega)) (lineL3 j hj _ (by omega) c), ih _ (fun i hi => h i (by simp [hi]))]
      rw [Int.toNat_of_nonneg n0]
      rfl
  exact key _ c (fun j hj => by simpa using hj)
theorem print_parse (g : Cfg) (hl : g.on.length = 10) (h0 : g.on.getD 0 false = false) (hn : Nums g) (hok : okCfg g = true) : parseN (tx (printL g)) = (g, 0) := by
  refine parseN_ok ?_ ?_ hok
  · have := pr1_len g 9 (by omega)
    have := pr2_len g 4 (by omega)
    unfold printL
    rw [List.length_append]; omega
  · unfold printL
    rw [read_pr1, read_pr2 _ _ hn]
    obtain ⟨on, w, st, em, de⟩ := g
    match on, hl with
    | [b0, b1, b2, b3, b4, b5, b6, b7, b8, b9], _ =>
      simp only [List.getD_cons_zero] at h0
      subst h0
      rfl

/- WALKS -/
theorem build24_2 (a b : ByteArray) (H : Heap) : buildSliceA Tryd.prog false 24 2 [(0, .str a), (1, .str b)] H = some (.slice .full 1 [.str a, .str b] 2, H) := by kernel_rfl
theorem build24_4 (H : Heap) : buildSliceA Tryd.prog false 24 4 [(0, .str ⟨#[119, 105, 100, 116, 104]⟩), (1, .str ⟨#[105, 110, 100, 101, 110, 116]⟩), (2, .str ⟨#[108, 105, 110, 101, 115]⟩), (3, .str ⟨#[100, 101, 112, 116, 104]⟩)] H =
    some (.slice .full 1 (numbersL.map .str) 4, H) := by kernel_rfl
theorem names_at (k : Nat) (hk : k < 9) : namesL[k + 1]? = some (tx (nml k)) := by
  match k, hk with
  | 0, _ | 1, _ | 2, _ | 3, _ | 4, _ | 5, _ | 6, _ | 7, _ | 8, _ => rfl
theorem numbers_at (k : Nat) (hk : k < 4) : numbersL[k]? = some (tx (nmb k)) := by
  match k, hk with
  | 0, _ | 1, _ | 2, _ | 3, _ => rfl
theorem place_at (b k : Nat) (hk : k < 4) : placeV b (tx (nmb k)) = .ptr b (0 + (10 + k)) := by
  match k, hk with
  | 0, _ | 1, _ | 2, _ | 3, _ => rfl
theorem ld_num {c : Cfg} (hc : c.on.length = 10) (k : Nat) (hk : k < 4) : takeVar Tryd.prog 3 (c.cells.drop (0 + (10 + k))) = some (.int .i64 (numAt c k)) := by
  match k, hk with
  | 0, _ => exact ld10 hc
  | 1, _ => exact ld11 hc
  | 2, _ => exact ld12 hc
  | 3, _ => exact ld13 hc
theorem itoa_prim {n : Int} (h0 : 0 ≤ n) (h1 : n ≤ 500) (H : Heap) : Runs Tryd.prog noHints prims 25 [.int .i64 n] H (.str (tx (digF 2 n.toNat))) H := runs_prim (p := pItoa) rfl (by
  simp only [pItoa]
  rw [if_pos ⟨by omega, by omega⟩, itoa_digF h0 h1]
  rfl)

set_option maxHeartbeats 8000000 in
theorem print_runs (c : Cfg) (hc : c.on.length = 10) (hn : Nums c) (H : Heap) : ∃ v H', Runs Tryd.prog noHints prims 13 [.agg c.cells] H v H' ∧ (v = .str (tx (printL c)) ∧ Gr H H') := by
  refine runs_of Tryd.prog noHints prims 47 [.tmp 2] func13 rfl rfl rfl rfl rfl rfl ?_
  have ho : (H.new (Cell.cells c.cells)).objs H.next = .cells c.cells := by rw [new_objs, if_pos rfl]
  simp only [↓wpC_skip, ↓wpC_label, ↓wpC_seq, ↓wpC_cond, ↓wpC_block, ↓wpC_exit, ↓wpC_goto, ↓wpC_ret, ↓wpC_region, ↓wpC_draw, ↓wpC_loop, ↓wpC_scope, ↓wpR_nil, ↓wpR_cons, ↓wpR_guard, ↓wpD_box, ↓wpL_nil, ↓wpL_cons, ↓wpL_guard, ↓wpD_move, ↓wpD_assign, ↓wpD_pick, ↓wpD_binOp, ↓wpD_unOp, ↓wpD_builtin, ↓wpD_index, ↓wpD_indexAddr, ↓wpD_convert, ↓wpD_alloc, ↓wpD_load, ↓wpD_store, ↓wpD_nilCheck, ↓wpD_makeInterface, ↓wpD_makeFunc, ↓wpD_makeMap, ↓wpD_slice, ↓wpD_fieldAddr, ↓wpD_field, ↓wpD_lookup, ↓wpD_mapUpdate, ↓wpD_typeAssert, ↓wpD_extract, ↓wpD_range, ↓wpD_next, ↓wpD_build, ↓wpD_buildSlice, ↓wpD_call, ↓wpD_callv, Bd_some, Gd_true, Gd_false, seqK_normal, seqK_exit, seqK_goto, seqK_ret, blockK_normal, blockK_same, blockK_ne, blockK_goto, blockK_ret, dstOk_some, dstOk_none, Nat.reduceLT, true_and, dstAt_zero, dstAt_succ, putO_none, putO_some, ev_tm, ev_int, ev_bool, ev_str, ev_func, ev_nilptr, ev_nilslice, ev_nilmap, upd_at, Nat.reduceEqDiff, if_true, if_false, Option.bind_some, Option.map_some, boolOf_bool, noHints_freeze, noHints_heap, moveA_false, pickA_true, pickA_false, argsE_eq, partsA_eq, partsE, List.mapM_cons, List.mapM_nil, Option.pure_def, Option.bind_eq_bind, optA_none, optA_some, builtinA_len, builtinA_append, binOpA_lss, binOpA_leq, binOpA_gtr, binOpA_geq, binOpA_eql, binOpA_neq, binOpA_add, binOpA_sub, binOpA_mul, binOpA_seql, binOpA_sneq, unOpA_not, natOf_nat, natOf_int, Int.reduceLE, Int.reduceToNat, boundA_int, new_next, set_next, new_objs, set_objs, flat_int, flat_bool, flat_str, flat_agg, extractA_tuple, boundA_none, loadA_rptr, List.getElem?_cons_zero, List.getElem?_cons_succ, List.getD_cons_zero, List.getD_cons_succ, Nat.reduceBEq, Int.reduceBEq, Int.reduceBNe, Int.reduceLT, eq_self, Bool.false_eq_true, decide_true, decide_false, beqT, beqF, Gd_not, resE_one, resE_two, Bool.not_true, Bool.not_false, decide_true, decide_false, beq_self_eq_true, List.toList_toArray, wpCall_eq (names_runs (H.new (Cell.cells c.cells))), lenA_slice und24]
  refine wpT_loop (fun (k : Nat) g H' => g 1 = .ptr H.next 0 ∧ g 3 = .str (tx (pr1 c (k - 1))) ∧ g 9 = .slice .full 1 (namesL.map .str) 10 ∧ g 10 = .int .i64 (10 : Nat) ∧ g 11 = .int .i64 (k : Nat) ∧ k ≤ 10 ∧ H' = H.new (.cells c.cells)) (fun k => 10 - k) 0
    ⟨rfl, rfl, rfl, rfl, rfl, by omega, rfl⟩ ?_
  rintro k g H' ⟨g1, g3, g9, g10, g11, hk, rfl⟩
  simp only [↓wpC_skip, ↓wpC_label, ↓wpC_seq, ↓wpC_cond, ↓wpC_block, ↓wpC_exit, ↓wpC_goto, ↓wpC_ret, ↓wpC_region, ↓wpC_draw, ↓wpC_loop, ↓wpC_scope, ↓wpR_nil, ↓wpR_cons, ↓wpR_guard, ↓wpD_box, ↓wpL_nil, ↓wpL_cons, ↓wpL_guard, ↓wpD_move, ↓wpD_assign, ↓wpD_pick, ↓wpD_binOp, ↓wpD_unOp, ↓wpD_builtin, ↓wpD_index, ↓wpD_indexAddr, ↓wpD_convert, ↓wpD_alloc, ↓wpD_load, ↓wpD_store, ↓wpD_nilCheck, ↓wpD_makeInterface, ↓wpD_makeFunc, ↓wpD_makeMap, ↓wpD_slice, ↓wpD_fieldAddr, ↓wpD_field, ↓wpD_lookup, ↓wpD_mapUpdate, ↓wpD_typeAssert, ↓wpD_extract, ↓wpD_range, ↓wpD_next, ↓wpD_build, ↓wpD_buildSlice, ↓wpD_call, ↓wpD_callv, Bd_some, Gd_true, Gd_false, seqK_normal, seqK_exit, seqK_goto, seqK_ret, blockK_normal, blockK_same, blockK_ne, blockK_goto, blockK_ret, dstOk_some, dstOk_none, Nat.reduceLT, true_and, dstAt_zero, dstAt_succ, putO_none, putO_some, ev_tm, ev_int, ev_bool, ev_str, ev_func, ev_nilptr, ev_nilslice, ev_nilmap, upd_at, Nat.reduceEqDiff, if_true, if_false, Option.bind_some, Option.map_some, boolOf_bool, noHints_freeze, noHints_heap, moveA_false, pickA_true, pickA_false, argsE_eq, partsA_eq, partsE, List.mapM_cons, List.mapM_nil, Option.pure_def, Option.bind_eq_bind, optA_none, optA_some, builtinA_len, builtinA_append, binOpA_lss, binOpA_leq, binOpA_gtr, binOpA_geq, binOpA_eql, binOpA_neq, binOpA_add, binOpA_sub, binOpA_mul, binOpA_seql, binOpA_sneq, unOpA_not, natOf_nat, natOf_int, Int.reduceLE, Int.reduceToNat, boundA_int, new_next, set_next, new_objs, set_objs, flat_int, flat_bool, flat_str, flat_agg, extractA_tuple, boundA_none, loadA_rptr, List.getElem?_cons_zero, List.getElem?_cons_succ, List.getD_cons_zero, List.getD_cons_succ, Nat.reduceBEq, Int.reduceBEq, Int.reduceBNe, Int.reduceLT, eq_self, Bool.false_eq_true, decide_true, decide_false, beqT, beqF, Gd_not, resE_one, resE_two, Bool.not_true, Bool.not_false, decide_true, decide_false, beq_self_eq_true, List.toList_toArray, g10, g11]
  refine Gd_of (fun h => ?_) (fun h => ?_)
  · have h' := of_decide_eq_true h
    have hw : IntKind.i64.wrap ((k : Int) + 1) = ((k + 1 : Nat) : Int) := by rw [w64 (by omega) (by omega)]; rfl
    obtain ⟨s, hs⟩ : ∃ s, namesL[k]? = some s := ⟨_, List.getElem?_eq_getElem (by show k < 10; omega)⟩
    obtain ⟨cs, i1, t1⟩ := elem24 (r := .full) (n := 10) rfl hs
    have he := names_ne k (by omega) s hs
    simp only [↓wpC_skip, ↓wpC_label, ↓wpC_seq, ↓wpC_cond, ↓wpC_block, ↓wpC_exit, ↓wpC_goto, ↓wpC_ret, ↓wpC_region, ↓wpC_draw, ↓wpC_loop, ↓wpC_scope, ↓wpR_nil, ↓wpR_cons, ↓wpR_guard, ↓wpD_box, ↓wpL_nil, ↓wpL_cons, ↓wpL_guard, ↓wpD_move, ↓wpD_assign, ↓wpD_pick, ↓wpD_binOp, ↓wpD_unOp, ↓wpD_builtin, ↓wpD_index, ↓wpD_indexAddr, ↓wpD_convert, ↓wpD_alloc, ↓wpD_load, ↓wpD_store, ↓wpD_nilCheck, ↓wpD_makeInterface, ↓wpD_makeFunc, ↓wpD_makeMap, ↓wpD_slice, ↓wpD_fieldAddr, ↓wpD_field, ↓wpD_lookup, ↓wpD_mapUpdate, ↓wpD_typeAssert, ↓wpD_extract, ↓wpD_range, ↓wpD_next, ↓wpD_build, ↓wpD_buildSlice, ↓wpD_call, ↓wpD_callv, Bd_some, Gd_true, Gd_false, seqK_normal, seqK_exit, seqK_goto, seqK_ret, blockK_normal, blockK_same, blockK_ne, blockK_goto, blockK_ret, dstOk_some, dstOk_none, Nat.reduceLT, true_and, dstAt_zero, dstAt_succ, putO_none, putO_some, ev_tm, ev_int, ev_bool, ev_str, ev_func, ev_nilptr, ev_nilslice, ev_nilmap, upd_at, Nat.reduceEqDiff, if_true, if_false, Option.bind_some, Option.map_some, boolOf_bool, noHints_freeze, noHints_heap, moveA_false, pickA_true, pickA_false, argsE_eq, partsA_eq, partsE, List.mapM_cons, List.mapM_nil, Option.pure_def, Option.bind_eq_bind, optA_none, optA_some, builtinA_len, builtinA_append, binOpA_lss, binOpA_leq, binOpA_gtr, binOpA_geq, binOpA_eql, binOpA_neq, binOpA_add, binOpA_sub, binOpA_mul, binOpA_seql, binOpA_sneq, unOpA_not, natOf_nat, natOf_int, Int.reduceLE, Int.reduceToNat, boundA_int, new_next, set_next, new_objs, set_objs, flat_int, flat_bool, flat_str, flat_agg, extractA_tuple, boundA_none, loadA_rptr, List.getElem?_cons_zero, List.getElem?_cons_succ, List.getD_cons_zero, List.getD_cons_succ, Nat.reduceBEq, Int.reduceBEq, Int.reduceBNe, Int.reduceLT, eq_self, Bool.false_eq_true, decide_true, decide_false, beqT, beqF, Gd_not, resE_one, resE_two, Bool.not_true, Bool.not_false, decide_true, decide_false, beq_self_eq_true, List.toList_toArray, g9, g11, i1, t1, he]
    refine Gd_of (fun h2 => ?_) (fun h2 => ?_)
    · have := of_decide_eq_true h2
      subst this
      simp only [↓wpC_skip, ↓wpC_label, ↓wpC_seq, ↓wpC_cond, ↓wpC_block, ↓wpC_exit, ↓wpC_goto, ↓wpC_ret, ↓wpC_region, ↓wpC_draw, ↓wpC_loop, ↓wpC_scope, ↓wpR_nil, ↓wpR_cons, ↓wpR_guard, ↓wpD_box, ↓wpL_nil, ↓wpL_cons, ↓wpL_guard, ↓wpD_move, ↓wpD_assign, ↓wpD_pick, ↓wpD_binOp, ↓wpD_unOp, ↓wpD_builtin, ↓wpD_index, ↓wpD_indexAddr, ↓wpD_convert, ↓wpD_alloc, ↓wpD_load, ↓wpD_store, ↓wpD_nilCheck, ↓wpD_makeInterface, ↓wpD_makeFunc, ↓wpD_makeMap, ↓wpD_slice, ↓wpD_fieldAddr, ↓wpD_field, ↓wpD_lookup, ↓wpD_mapUpdate, ↓wpD_typeAssert, ↓wpD_extract, ↓wpD_range, ↓wpD_next, ↓wpD_build, ↓wpD_buildSlice, ↓wpD_call, ↓wpD_callv, Bd_some, Gd_true, Gd_false, seqK_normal, seqK_exit, seqK_goto, seqK_ret, blockK_normal, blockK_same, blockK_ne, blockK_goto, blockK_ret, dstOk_some, dstOk_none, Nat.reduceLT, true_and, dstAt_zero, dstAt_succ, putO_none, putO_some, ev_tm, ev_int, ev_bool, ev_str, ev_func, ev_nilptr, ev_nilslice, ev_nilmap, upd_at, Nat.reduceEqDiff, if_true, if_false, Option.bind_some, Option.map_some, boolOf_bool, noHints_freeze, noHints_heap, moveA_false, pickA_true, pickA_false, argsE_eq, partsA_eq, partsE, List.mapM_cons, List.mapM_nil, Option.pure_def, Option.bind_eq_bind, optA_none, optA_some, builtinA_len, builtinA_append, binOpA_lss, binOpA_leq, binOpA_gtr, binOpA_geq, binOpA_eql, binOpA_neq, binOpA_add, binOpA_sub, binOpA_mul, binOpA_seql, binOpA_sneq, unOpA_not, natOf_nat, natOf_int, Int.reduceLE, Int.reduceToNat, boundA_int, new_next, set_next, new_objs, set_objs, flat_int, flat_bool, flat_str, flat_agg, extractA_tuple, boundA_none, loadA_rptr, List.getElem?_cons_zero, List.getElem?_cons_succ, List.getD_cons_zero, List.getD_cons_succ, Nat.reduceBEq, Int.reduceBEq, Int.reduceBNe, Int.reduceLT, eq_self, Bool.false_eq_true, decide_true, decide_false, beqT, beqF, Gd_not, resE_one, resE_two, Bool.not_true, Bool.not_false, decide_true, decide_false, beq_self_eq_true, List.toList_toArray, g11, hw]
      exact Again.mk 1 ⟨g1, g3, g9, g10, rfl, by omega, rfl⟩ (by omega)
    · have hk0 : k ≠ 0 := of_decide_eq_false h2
      obtain ⟨j, rfl⟩ : ∃ j, k = j + 1 := ⟨k - 1, by omega⟩
      have hj : j < 9 := by omega
      rw [names_at j hj] at hs
      cases hs
      have hlen := pr1_len c j (by omega)
      have hnl := nml_len j hj
      have hrow : ∀ b, Runs Tryd.prog noHints prims 24 [.slice .full 1 [.str (tx (nml j)), .str (tx (onW b))] 2] (H.new (.cells c.cells)) (.str (tx (line1 j b))) (H.new (.cells c.cells)) := fun b => row_runs _ _ (by
        have : (onW b).length ≤ 3 := by cases b <;> decide
        omega) _
      have hadd : ∀ b ox oy, binOpA Tryd.prog .add 9 ox oy (.str (tx (pr1 c j))) (.str (tx (line1 j b))) = some (.str (tx (pr1 c j ++ line1 j b))) := fun b ox oy => sadd ox oy (by
        have := line1_len j hj b
        omega)
      have hon := ld_on hc (i := j + 1) (by omega)
      have g3' : g 3 = .str (tx (pr1 c j)) := g3
      have hnext : pr1 c (j + 1) = pr1 c j ++ line1 j (onAt c (j + 1)) := flat_succ _ j
      simp only [↓wpC_skip, ↓wpC_label, ↓wpC_seq, ↓wpC_cond, ↓wpC_block, ↓wpC_exit, ↓wpC_goto, ↓wpC_ret, ↓wpC_region, ↓wpC_draw, ↓wpC_loop, ↓wpC_scope, ↓wpR_nil, ↓wpR_cons, ↓wpR_guard, ↓wpD_box, ↓wpL_nil, ↓wpL_cons, ↓wpL_guard, ↓wpD_move, ↓wpD_assign, ↓wpD_pick, ↓wpD_binOp, ↓wpD_unOp, ↓wpD_builtin, ↓wpD_index, ↓wpD_indexAddr, ↓wpD_convert, ↓wpD_alloc, ↓wpD_load, ↓wpD_store, ↓wpD_nilCheck, ↓wpD_makeInterface, ↓wpD_makeFunc, ↓wpD_makeMap, ↓wpD_slice, ↓wpD_fieldAddr, ↓wpD_field, ↓wpD_lookup, ↓wpD_mapUpdate, ↓wpD_typeAssert, ↓wpD_extract, ↓wpD_range, ↓wpD_next, ↓wpD_build, ↓wpD_buildSlice, ↓wpD_call, ↓wpD_callv, Bd_some, Gd_true, Gd_false, seqK_normal, seqK_exit, seqK_goto, seqK_ret, blockK_normal, blockK_same, blockK_ne, blockK_goto, blockK_ret, dstOk_some, dstOk_none, Nat.reduceLT, true_and, dstAt_zero, dstAt_succ, putO_none, putO_some, ev_tm, ev_int, ev_bool, ev_str, ev_func, ev_nilptr, ev_nilslice, ev_nilmap, upd_at, Nat.reduceEqDiff, if_true, if_false, Option.bind_some, Option.map_some, boolOf_bool, noHints_freeze, noHints_heap, moveA_false, pickA_true, pickA_false, argsE_eq, partsA_eq, partsE, List.mapM_cons, List.mapM_nil, Option.pure_def, Option.bind_eq_bind, optA_none, optA_some, builtinA_len, builtinA_append, binOpA_lss, binOpA_leq, binOpA_gtr, binOpA_geq, binOpA_eql, binOpA_neq, binOpA_add, binOpA_sub, binOpA_mul, binOpA_seql, binOpA_sneq, unOpA_not, natOf_nat, natOf_int, Int.reduceLE, Int.reduceToNat, boundA_int, new_next, set_next, new_objs, set_objs, flat_int, flat_bool, flat_str, flat_agg, extractA_tuple, boundA_none, loadA_rptr, List.getElem?_cons_zero, List.getElem?_cons_succ, List.getD_cons_zero, List.getD_cons_succ, Nat.reduceBEq, Int.reduceBEq, Int.reduceBNe, Int.reduceLT, eq_self, Bool.false_eq_true, decide_true, decide_false, beqT, beqF, Gd_not, resE_one, resE_two, Bool.not_true, Bool.not_false, decide_true, decide_false, beq_self_eq_true, List.toList_toArray, g1, fa, ia26 _ _ (j + 1) (by omega), loadA_cells ho, hon]
      refine Gd_of (fun h3 => ?_) (fun h3 => ?_)
      · have e1 := hrow true
        simp only [↓wpC_skip, ↓wpC_label, ↓wpC_seq, ↓wpC_cond, ↓wpC_block, ↓wpC_exit, ↓wpC_goto, ↓wpC_ret, ↓wpC_region, ↓wpC_draw, ↓wpC_loop, ↓wpC_scope, ↓wpR_nil, ↓wpR_cons, ↓wpR_guard, ↓wpD_box, ↓wpL_nil, ↓wpL_cons, ↓wpL_guard, ↓wpD_move, ↓wpD_assign, ↓wpD_pick, ↓wpD_binOp, ↓wpD_unOp, ↓wpD_builtin, ↓wpD_index, ↓wpD_indexAddr, ↓wpD_convert, ↓wpD_alloc, ↓wpD_load, ↓wpD_store, ↓wpD_nilCheck, ↓wpD_makeInterface, ↓wpD_makeFunc, ↓wpD_makeMap, ↓wpD_slice, ↓wpD_fieldAddr, ↓wpD_field, ↓wpD_lookup, ↓wpD_mapUpdate, ↓wpD_typeAssert, ↓wpD_extract, ↓wpD_range, ↓wpD_next, ↓wpD_build, ↓wpD_buildSlice, ↓wpD_call, ↓wpD_callv, Bd_some, Gd_true, Gd_false, seqK_normal, seqK_exit, seqK_goto, seqK_ret, blockK_normal, blockK_same, blockK_ne, blockK_goto, blockK_ret, dstOk_some, dstOk_none, Nat.reduceLT, true_and, dstAt_zero, dstAt_succ, putO_none, putO_some, ev_tm, ev_int, ev_bool, ev_str, ev_func, ev_nilptr, ev_nilslice, ev_nilmap, upd_at, Nat.reduceEqDiff, if_true, if_false, Option.bind_some, Option.map_some, boolOf_bool, noHints_freeze, noHints_heap, moveA_false, pickA_true, pickA_false, argsE_eq, partsA_eq, partsE, List.mapM_cons, List.mapM_nil, Option.pure_def, Option.bind_eq_bind, optA_none, optA_some, builtinA_len, builtinA_append, binOpA_lss, binOpA_leq, binOpA_gtr, binOpA_geq, binOpA_eql, binOpA_neq, binOpA_add, binOpA_sub, binOpA_mul, binOpA_seql, binOpA_sneq, unOpA_not, natOf_nat, natOf_int, Int.reduceLE, Int.reduceToNat, boundA_int, new_next, set_next, new_objs, set_objs, flat_int, flat_bool, flat_str, flat_agg, extractA_tuple, boundA_none, loadA_rptr, List.getElem?_cons_zero, List.getElem?_cons_succ, List.getD_cons_zero, List.getD_cons_succ, Nat.reduceBEq, Int.reduceBEq, Int.reduceBNe, Int.reduceLT, eq_self, Bool.false_eq_true, decide_true, decide_false, beqT, beqF, Gd_not, resE_one, resE_two, Bool.not_true, Bool.not_false, decide_true, decide_false, beq_self_eq_true, List.toList_toArray, g3', build24_2, wpCall_eq (show Runs Tryd.prog noHints prims 24 [.slice .full 1 [.str (tx (nml j)), .str ⟨#[111, 110]⟩] 2] (H.new (.cells c.cells)) (.str (tx (line1 j true))) (H.new (.cells c.cells)) from hrow true), hadd, g11, hw]
        refine Again.mk (j + 2) ⟨g1, ?_, g9, g10, rfl, by omega, rfl⟩ (by omega)
        show AV.str _ = _
        rw [show j + 2 - 1 = j + 1 by omega, hnext, show onAt c (j + 1) = true from h3]
      · simp only [↓wpC_skip, ↓wpC_label, ↓wpC_seq, ↓wpC_cond, ↓wpC_block, ↓wpC_exit, ↓wpC_goto, ↓wpC_ret, ↓wpC_region, ↓wpC_draw, ↓wpC_loop, ↓wpC_scope, ↓wpR_nil, ↓wpR_cons, ↓wpR_guard, ↓wpD_box, ↓wpL_nil, ↓wpL_cons, ↓wpL_guard, ↓wpD_move, ↓wpD_assign, ↓wpD_pick, ↓wpD_binOp, ↓wpD_unOp, ↓wpD_builtin, ↓wpD_index, ↓wpD_indexAddr, ↓wpD_convert, ↓wpD_alloc, ↓wpD_load, ↓wpD_store, ↓wpD_nilCheck, ↓wpD_makeInterface, ↓wpD_makeFunc, ↓wpD_makeMap, ↓wpD_slice, ↓wpD_fieldAddr, ↓wpD_field, ↓wpD_lookup, ↓wpD_mapUpdate, ↓wpD_typeAssert, ↓wpD_extract, ↓wpD_range, ↓wpD_next, ↓wpD_build, ↓wpD_buildSlice, ↓wpD_call, ↓wpD_callv, Bd_some, Gd_true, Gd_false, seqK_normal, seqK_exit, seqK_goto, seqK_ret, blockK_normal, blockK_same, blockK_ne, blockK_goto, blockK_ret, dstOk_some, dstOk_none, Nat.reduceLT, true_and, dstAt_zero, dstAt_succ, putO_none, putO_some, ev_tm, ev_int, ev_bool, ev_str, ev_func, ev_nilptr, ev_nilslice, ev_nilmap, upd_at, Nat.reduceEqDiff, if_true, if_false, Option.bind_some, Option.map_some, boolOf_bool, noHints_freeze, noHints_heap, moveA_false, pickA_true, pickA_false, argsE_eq, partsA_eq, partsE, List.mapM_cons, List.mapM_nil, Option.pure_def, Option.bind_eq_bind, optA_none, optA_some, builtinA_len, builtinA_append, binOpA_lss, binOpA_leq, binOpA_gtr, binOpA_geq, binOpA_eql, binOpA_neq, binOpA_add, binOpA_sub, binOpA_mul, binOpA_seql, binOpA_sneq, unOpA_not, natOf_nat, natOf_int, Int.reduceLE, Int.reduceToNat, boundA_int, new_next, set_next, new_objs, set_objs, flat_int, flat_bool, flat_str, flat_agg, extractA_tuple, boundA_none, loadA_rptr, List.getElem?_cons_zero, List.getElem?_cons_succ, List.getD_cons_zero, List.getD_cons_succ, Nat.reduceBEq, Int.reduceBEq, Int.reduceBNe, Int.reduceLT, eq_self, Bool.false_eq_true, decide_true, decide_false, beqT, beqF, Gd_not, resE_one, resE_two, Bool.not_true, Bool.not_false, decide_true, decide_false, beq_self_eq_true, List.toList_toArray, g3', build24_2, wpCall_eq (show Runs Tryd.prog noHints prims 24 [.slice .full 1 [.str (tx (nml j)), .str ⟨#[111, 102, 102]⟩] 2] (H.new (.cells c.cells)) (.str (tx (line1 j false))) (H.new (.cells c.cells)) from hrow false), hadd, g11, hw]
        refine Again.mk (j + 2) ⟨g1, ?_, g9, g10, rfl, by omega, rfl⟩ (by omega)
        show AV.str _ = _
        rw [show j + 2 - 1 = j + 1 by omega, hnext, show onAt c (j + 1) = false from h3]
  · have h' := of_decide_eq_false h
    have hk10 : k = 10 := by omega
    subst hk10
    simp only [↓wpC_skip, ↓wpC_label, ↓wpC_seq, ↓wpC_cond, ↓wpC_block, ↓wpC_exit, ↓wpC_goto, ↓wpC_ret, ↓wpC_region, ↓wpC_draw, ↓wpC_loop, ↓wpC_scope, ↓wpR_nil, ↓wpR_cons, ↓wpR_guard, ↓wpD_box, ↓wpL_nil, ↓wpL_cons, ↓wpL_guard, ↓wpD_move, ↓wpD_assign, ↓wpD_pick, ↓wpD_binOp, ↓wpD_unOp, ↓wpD_builtin, ↓wpD_index, ↓wpD_indexAddr, ↓wpD_convert, ↓wpD_alloc, ↓wpD_load, ↓wpD_store, ↓wpD_nilCheck, ↓wpD_makeInterface, ↓wpD_makeFunc, ↓wpD_makeMap, ↓wpD_slice, ↓wpD_fieldAddr, ↓wpD_field, ↓wpD_lookup, ↓wpD_mapUpdate, ↓wpD_typeAssert, ↓wpD_extract, ↓wpD_range, ↓wpD_next, ↓wpD_build, ↓wpD_buildSlice, ↓wpD_call, ↓wpD_callv, Bd_some, Gd_true, Gd_false, seqK_normal, seqK_exit, seqK_goto, seqK_ret, blockK_normal, blockK_same, blockK_ne, blockK_goto, blockK_ret, dstOk_some, dstOk_none, Nat.reduceLT, true_and, dstAt_zero, dstAt_succ, putO_none, putO_some, ev_tm, ev_int, ev_bool, ev_str, ev_func, ev_nilptr, ev_nilslice, ev_nilmap, upd_at, Nat.reduceEqDiff, if_true, if_false, Option.bind_some, Option.map_some, boolOf_bool, noHints_freeze, noHints_heap, moveA_false, pickA_true, pickA_false, argsE_eq, partsA_eq, partsE, List.mapM_cons, List.mapM_nil, Option.pure_def, Option.bind_eq_bind, optA_none, optA_some, builtinA_len, builtinA_append, binOpA_lss, binOpA_leq, binOpA_gtr, binOpA_geq, binOpA_eql, binOpA_neq, binOpA_add, binOpA_sub, binOpA_mul, binOpA_seql, binOpA_sneq, unOpA_not, natOf_nat, natOf_int, Int.reduceLE, Int.reduceToNat, boundA_int, new_next, set_next, new_objs, set_objs, flat_int, flat_bool, flat_str, flat_agg, extractA_tuple, boundA_none, loadA_rptr, List.getElem?_cons_zero, List.getElem?_cons_succ, List.getD_cons_zero, List.getD_cons_succ, Nat.reduceBEq, Int.reduceBEq, Int.reduceBNe, Int.reduceLT, eq_self, Bool.false_eq_true, decide_true, decide_false, beqT, beqF, Gd_not, resE_one, resE_two, Bool.not_true, Bool.not_false, decide_true, decide_false, beq_self_eq_true, List.toList_toArray, build24_4, lenA_slice und24]
    refine wpT_loop (fun (k : Nat) g H' => g 1 = .ptr H.next 0 ∧ g 3 = .str (tx (pr1 c 9 ++ pr2 c k)) ∧ g 29 = .slice .full 1 (numbersL.map .str) 4 ∧ g 30 = .int .i64 (4 : Nat) ∧ g 31 = .int .i64 (k : Nat) ∧ k ≤ 4 ∧ H' = H.new (.cells c.cells)) (fun k => 4 - k) 0
      ⟨g1, by show g 3 = _; rw [g3]; simp [pr2], rfl, rfl, rfl, by omega, rfl⟩ ?_
    rintro k g H' ⟨g1, g3, g29, g30, g31, hk, rfl⟩
    simp only [↓wpC_skip, ↓wpC_label, ↓wpC_seq, ↓wpC_cond, ↓wpC_block, ↓wpC_exit, ↓wpC_goto, ↓wpC_ret, ↓wpC_region, ↓wpC_draw, ↓wpC_loop, ↓wpC_scope, ↓wpR_nil, ↓wpR_cons, ↓wpR_guard, ↓wpD_box, ↓wpL_nil, ↓wpL_cons, ↓wpL_guard, ↓wpD_move, ↓wpD_assign, ↓wpD_pick, ↓wpD_binOp, ↓wpD_unOp, ↓wpD_builtin, ↓wpD_index, ↓wpD_indexAddr, ↓wpD_convert, ↓wpD_alloc, ↓wpD_load, ↓wpD_store, ↓wpD_nilCheck, ↓wpD_makeInterface, ↓wpD_makeFunc, ↓wpD_makeMap, ↓wpD_slice, ↓wpD_fieldAddr, ↓wpD_field, ↓wpD_lookup, ↓wpD_mapUpdate, ↓wpD_typeAssert, ↓wpD_extract, ↓wpD_range, ↓wpD_next, ↓wpD_build, ↓wpD_buildSlice, ↓wpD_call, ↓wpD_callv, Bd_some, Gd_true, Gd_false, seqK_normal, seqK_exit, seqK_goto, seqK_ret, blockK_normal, blockK_same, blockK_ne, blockK_goto, blockK_ret, dstOk_some, dstOk_none, Nat.reduceLT, true_and, dstAt_zero, dstAt_succ, putO_none, putO_some, ev_tm, ev_int, ev_bool, ev_str, ev_func, ev_nilptr, ev_nilslice, ev_nilmap, upd_at, Nat.reduceEqDiff, if_true, if_false, Option.bind_some, Option.map_some, boolOf_bool, noHints_freeze, noHints_heap, moveA_false, pickA_true, pickA_false, argsE_eq, partsA_eq, partsE, List.mapM_cons, List.mapM_nil, Option.pure_def, Option.bind_eq_bind, optA_none, optA_some, builtinA_len, builtinA_append, binOpA_lss, binOpA_leq, binOpA_gtr, binOpA_geq, binOpA_eql, binOpA_neq, binOpA_add, binOpA_sub, binOpA_mul, binOpA_seql, binOpA_sneq, unOpA_not, natOf_nat, natOf_int, Int.reduceLE, Int.reduceToNat, boundA_int, new_next, set_next, new_objs, set_objs, flat_int, flat_bool, flat_str, flat_agg, extractA_tuple, boundA_none, loadA_rptr, List.getElem?_cons_zero, List.getElem?_cons_succ, List.getD_cons_zero, List.getD_cons_succ, Nat.reduceBEq, Int.reduceBEq, Int.reduceBNe, Int.reduceLT, eq_self, Bool.false_eq_true, decide_true, decide_false, beqT, beqF, Gd_not, resE_one, resE_two, Bool.not_true, Bool.not_false, decide_true, decide_false, beq_self_eq_true, List.toList_toArray, g30, g31]
    refine Gd_of (fun h => ?_) (fun h => ?_)
    · have h' := of_decide_eq_true h
      have hk4 : k < 4 := by omega
      have hw : IntKind.i64.wrap ((k : Int) + 1) = ((k + 1 : Nat) : Int) := by rw [w64 (by omega) (by omega)]; rfl
      obtain ⟨cs, i1, t1⟩ := elem24 (r := .full) (n := 4) rfl (numbers_at k hk4)
      obtain ⟨n0, n5⟩ := hn k hk4
      have hp := place_runs H.next (tx (nmb k)) (H.new (.cells c.cells))
      rw [place_at _ k hk4] at hp
      have h1 := pr1_len c 9 (by omega)
      have h2 := pr2_len c k (by omega)
      have h3 := nmb_len k hk4
      have h4 := digF_len 2 (numAt c k).toNat
      have hrow : Runs Tryd.prog noHints prims 24 [.slice .full 1 [.str (tx (nmb k)), .str (tx (digF 2 (numAt c k).toNat))] 2] (H.new (.cells c.cells)) (.str (tx (line3 k (numAt c k)))) (H.new (.cells c.cells)) := row_runs _ _ (by omega) _
      have hadd : ∀ ox oy, binOpA Tryd.prog .add 9 ox oy (.str (tx (pr1 c 9 ++ pr2 c k))) (.str (tx (line3 k (numAt c k)))) = some (.str (tx (pr1 c 9 ++ pr2 c k ++ line3 k (numAt c k)))) := fun ox oy => sadd ox oy (by
        simp only [line3, List.length_append, List.length_cons, List.length_nil]; omega)
      simp only [↓wpC_skip, ↓wpC_label, ↓wpC_seq, ↓wpC_cond, ↓wpC_block, ↓wpC_exit, ↓wpC_goto, ↓wpC_ret, ↓wpC_region, ↓wpC_draw, ↓wpC_loop, ↓wpC_scope, ↓wpR_nil, ↓wpR_cons, ↓wpR_guard, ↓wpD_box, ↓wpL_nil, ↓wpL_cons, ↓wpL_guard, ↓wpD_move, ↓wpD_assign, ↓wpD_pick, ↓wpD_binOp, ↓wpD_unOp, ↓wpD_builtin, ↓wpD_index, ↓wpD_indexAddr, ↓wpD_convert, ↓wpD_alloc, ↓wpD_load, ↓wpD_store, ↓wpD_nilCheck, ↓wpD_makeInterface, ↓wpD_makeFunc, ↓wpD_makeMap, ↓wpD_slice, ↓wpD_fieldAddr, ↓wpD_field, ↓wpD_lookup, ↓wpD_mapUpdate, ↓wpD_typeAssert, ↓wpD_extract, ↓wpD_range, ↓wpD_next, ↓wpD_build, ↓wpD_buildSlice, ↓wpD_call, ↓wpD_callv, Bd_some, Gd_true, Gd_false, seqK_normal, seqK_exit, seqK_goto, seqK_ret, blockK_normal, blockK_same, blockK_ne, blockK_goto, blockK_ret, dstOk_some, dstOk_none, Nat.reduceLT, true_and, dstAt_zero, dstAt_succ, putO_none, putO_some, ev_tm, ev_int, ev_bool, ev_str, ev_func, ev_nilptr, ev_nilslice, ev_nilmap, upd_at, Nat.reduceEqDiff, if_true, if_false, Option.bind_some, Option.map_some, boolOf_bool, noHints_freeze, noHints_heap, moveA_false, pickA_true, pickA_false, argsE_eq, partsA_eq, partsE, List.mapM_cons, List.mapM_nil, Option.pure_def, Option.bind_eq_bind, optA_none, optA_some, builtinA_len, builtinA_append, binOpA_lss, binOpA_leq, binOpA_gtr, binOpA_geq, binOpA_eql, binOpA_neq, binOpA_add, binOpA_sub, binOpA_mul, binOpA_seql, binOpA_sneq, unOpA_not, natOf_nat, natOf_int, Int.reduceLE, Int.reduceToNat, boundA_int, new_next, set_next, new_objs, set_objs, flat_int, flat_bool, flat_str, flat_agg, extractA_tuple, boundA_none, loadA_rptr, List.getElem?_cons_zero, List.getElem?_cons_succ, List.getD_cons_zero, List.getD_cons_succ, Nat.reduceBEq, Int.reduceBEq, Int.reduceBNe, Int.reduceLT, eq_self, Bool.false_eq_true, decide_true, decide_false, beqT, beqF, Gd_not, resE_one, resE_two, Bool.not_true, Bool.not_false, decide_true, decide_false, beq_self_eq_true, List.toList_toArray, g29, g31, g1, g3, i1, t1, wpCall_eq hp, nilCheckA_ptr, loadA_cells ho, ld_num hc k hk4, wpCall_eq (itoa_prim n0 n5 (H.new (.cells c.cells))), build24_2, wpCall_eq hrow, hadd, hw]
      refine Again.mk (k + 1) ⟨g1, ?_, g29, g30, rfl, by omega, rfl⟩ (by omega)
      show AV.str _ = _
      rw [show pr2 c (k + 1) = pr2 c k ++ line3 k (numAt c k) from flat_succ _ k, List.append_assoc]
    · have h' := of_decide_eq_false h
      have hk4 : k = 4 := by omega
      subst hk4
      simp only [↓wpC_skip, ↓wpC_label, ↓wpC_seq, ↓wpC_cond, ↓wpC_block, ↓wpC_exit, ↓wpC_goto, ↓wpC_ret, ↓wpC_region, ↓wpC_draw, ↓wpC_loop, ↓wpC_scope, ↓wpR_nil, ↓wpR_cons, ↓wpR_guard, ↓wpD_box, ↓wpL_nil, ↓wpL_cons, ↓wpL_guard, ↓wpD_move, ↓wpD_assign, ↓wpD_pick, ↓wpD_binOp, ↓wpD_unOp, ↓wpD_builtin, ↓wpD_index, ↓wpD_indexAddr, ↓wpD_convert, ↓wpD_alloc, ↓wpD_load, ↓wpD_store, ↓wpD_nilCheck, ↓wpD_makeInterface, ↓wpD_makeFunc, ↓wpD_makeMap, ↓wpD_slice, ↓wpD_fieldAddr, ↓wpD_field, ↓wpD_lookup, ↓wpD_mapUpdate, ↓wpD_typeAssert, ↓wpD_extract, ↓wpD_range, ↓wpD_next, ↓wpD_build, ↓wpD_buildSlice, ↓wpD_call, ↓wpD_callv, Bd_some, Gd_true, Gd_false, seqK_normal, seqK_exit, seqK_goto, seqK_ret, blockK_normal, blockK_same, blockK_ne, blockK_goto, blockK_ret, dstOk_some, dstOk_none, Nat.reduceLT, true_and, dstAt_zero, dstAt_succ, putO_none, putO_some, ev_tm, ev_int, ev_bool, ev_str, ev_func, ev_nilptr, ev_nilslice, ev_nilmap, upd_at, Nat.reduceEqDiff, if_true, if_false, Option.bind_some, Option.map_some, boolOf_bool, noHints_freeze, noHints_heap, moveA_false, pickA_true, pickA_false, argsE_eq, partsA_eq, partsE, List.mapM_cons, List.mapM_nil, Option.pure_def, Option.bind_eq_bind, optA_none, optA_some, builtinA_len, builtinA_append, binOpA_lss, binOpA_leq, binOpA_gtr, binOpA_geq, binOpA_eql, binOpA_neq, binOpA_add, binOpA_sub, binOpA_mul, binOpA_seql, binOpA_sneq, unOpA_not, natOf_nat, natOf_int, Int.reduceLE, Int.reduceToNat, boundA_int, new_next, set_next, new_objs, set_objs, flat_int, flat_bool, flat_str, flat_agg, extractA_tuple, boundA_none, loadA_rptr, List.getElem?_cons_zero, List.getElem?_cons_succ, List.getD_cons_zero, List.getD_cons_succ, Nat.reduceBEq, Int.reduceBEq, Int.reduceBNe, Int.reduceLT, eq_self, Bool.false_eq_true, decide_true, decide_false, beqT, beqF, Gd_not, resE_one, resE_two, Bool.not_true, Bool.not_false, decide_true, decide_false, beq_self_eq_true, List.toList_toArray, g3]
      exact ⟨rfl, (Gr.refl H).new _⟩
end Go.Proofs.Tryd
