/- A part of the proof (CfgP). -/
import Derived.Test.YtedfjabpnmjngaaDoorAM23
import Derived.Test.YtedfjabpnmjngaaDoorAM24
import Derived.Test.YtedfjabpnmjngaaDoorTrydShelf
import Derived.KernelRfl
set_option linter.unusedSimpArgs false
set_option linter.unusedVariables false
namespace Go.Proofs.Tryd
open Go Go.AM Go.RowKit

/- WHAT THE LIBRARY ANSWERS, AS THE ABSTRACT MACHINE TAKES IT. -/
theorem grow_of {w w' : World} (h : Below w.heap.size w w') : w.grownBy w' none := ⟨h.os, h.tape, h.output, h.size, fun k hk _ => h.block k hk⟩

/-- Blanks of a line. -/
def blank (n : Nat) : Bool := n == 32 || n == 9

def pSplit : List AV → Heap → Option (AV × Heap)
  | [.str s, .str sep], H => if s.size < 4294967281 ∧ 1 ≤ sep.size then
      some (.slice .full 1 ((Lib.splitB sep 0 (Lib.countB s sep) s).map .str) (Lib.countB s sep + 1), H) else none
  | _, _ => none
def pFields : List AV → Heap → Option (AV × Heap)
  | [.str s, .func 34 [] []], H => if s.size ≤ 4294967296 then
      some (.slice .full 1 ((Lib.goFieldsP blank s).map .str) (Lib.goFieldsP blank s).length, H) else none
  | _, _ => none
def pAtoi : List AV → Heap → Option (AV × Heap)
  | [.str s], H => if s.size ≤ 18 then match Lib.atoi s.data.toList with
    | some n => some (.tuple [.int .i64 n, .nilIface], H)
    | none => none
    else none
  | _, _ => none
def pItoa : List AV → Heap → Option (AV × Heap)
  | [.int .i64 n], H => if -9223372036854775808 ≤ n ∧ n ≤ 9223372036854775807 then some (.str ⟨(Lib.itoa n).toArray⟩, H) else none
  | _, _ => none
def strsOf : List AV → Option (List ByteArray)
  | [] => some []
  | .str s :: r => (strsOf r).map (s :: ·)
  | _ => none
def pJoin : List AV → Heap → Option (AV × Heap)
  | [.slice _ 1 cs n, .str sep], H => match strsOf cs with
    | some xs => if xs.length = n ∧ n ≤ 140737488355328 ∧ (Lib.join (xs.map (·.data.toList)) sep.data.toList).length ≤ 140737488355328 ∧ 0 < n then
        some (.str ⟨(Lib.join (xs.map (·.data.toList)) sep.data.toList).toArray⟩, H) else none
    | none => none
  | _, _ => none

def prims : Prims := fun f => match f with
  | 15 => some pSplit
  | 33 => some pFields
  | 43 => some pAtoi
  | 25 => some pItoa
  | 38 => some pJoin
  | _ => none

theorem words1_runs (x : Nat) (H : Heap) : ∃ v H', Runs Tryd.prog noHints (fun _ => none) 34 [.int .i32 x] H v H' ∧ (v = .bool (blank x)) := by
  refine runs_of Tryd.prog noHints (fun _ => none) 9 [.tmp 2] func34 rfl rfl rfl rfl rfl rfl ?_
  have e32 : ((x : Int) == 32) = (x == 32) := by
    rw [Bool.eq_iff_iff, beq_iff_eq, beq_iff_eq]; omega
  have e9 : ((x : Int) == 9) = (x == 9) := by
    rw [Bool.eq_iff_iff, beq_iff_eq, beq_iff_eq]; omega
  simp only [↓wpC_skip, ↓wpC_label, ↓wpC_seq, ↓wpC_cond, ↓wpC_block, ↓wpC_exit, ↓wpC_goto, ↓wpC_ret, ↓wpC_region, ↓wpC_draw, ↓wpC_loop, ↓wpC_scope, ↓wpR_nil, ↓wpR_cons, ↓wpR_guard, ↓wpD_box, ↓wpL_nil, ↓wpL_cons, ↓wpL_guard, ↓wpD_move, ↓wpD_assign, ↓wpD_pick, ↓wpD_binOp, ↓wpD_unOp, ↓wpD_builtin, ↓wpD_index, ↓wpD_indexAddr, ↓wpD_convert, ↓wpD_alloc, ↓wpD_load, ↓wpD_store, ↓wpD_nilCheck, ↓wpD_makeInterface, ↓wpD_makeFunc, ↓wpD_makeMap, ↓wpD_slice, ↓wpD_fieldAddr, ↓wpD_field, ↓wpD_lookup, ↓wpD_mapUpdate, ↓wpD_typeAssert, ↓wpD_extract, ↓wpD_range, ↓wpD_next, ↓wpD_build, ↓wpD_buildSlice, ↓wpD_call, ↓wpD_callv, Bd_some, Gd_true, Gd_false, seqK_normal, seqK_exit, seqK_goto, seqK_ret, blockK_normal, blockK_same, blockK_ne, blockK_goto, blockK_ret, dstOk_some, dstOk_none, Nat.reduceLT, true_and, dstAt_zero, dstAt_succ, putO_none, putO_some, ev_tm, ev_int, ev_bool, ev_str, ev_func, ev_nilptr, ev_nilslice, ev_nilmap, upd_at, Nat.reduceEqDiff, if_true, if_false, Option.bind_some, Option.map_some, boolOf_bool, noHints_freeze, noHints_heap, moveA_false, pickA_true, pickA_false, argsE_eq, partsA_eq, partsE, List.mapM_cons, List.mapM_nil, Option.pure_def, Option.bind_eq_bind, optA_none, optA_some, builtinA_len, builtinA_append, binOpA_lss, binOpA_leq, binOpA_gtr, binOpA_geq, binOpA_eql, binOpA_neq, binOpA_add, binOpA_sub, binOpA_mul, binOpA_seql, binOpA_sneq, unOpA_not, natOf_nat, natOf_int, Int.reduceLE, Int.reduceToNat, boundA_int, new_next, set_next, new_objs, set_objs, flat_int, flat_bool, flat_str, flat_agg, extractA_tuple, boundA_none, loadA_rptr, List.getElem?_cons_zero, List.getElem?_cons_succ, List.getD_cons_zero, List.getD_cons_succ, Nat.reduceBEq, Int.reduceBEq, Int.reduceBNe, Int.reduceLT, eq_self, Bool.false_eq_true, decide_true, decide_false, beqT, beqF, Gd_not, resE_one, resE_two, Bool.not_true, Bool.not_false, decide_true, decide_false, beq_self_eq_true, List.toList_toArray, e32, e9]
  refine Gd_of (fun h => ?_) (fun h => ?_)
  · simp only [↓wpC_skip, ↓wpC_label, ↓wpC_seq, ↓wpC_cond, ↓wpC_block, ↓wpC_exit, ↓wpC_goto, ↓wpC_ret, ↓wpC_region, ↓wpC_draw, ↓wpC_loop, ↓wpC_scope, ↓wpR_nil, ↓wpR_cons, ↓wpR_guard, ↓wpD_box, ↓wpL_nil, ↓wpL_cons, ↓wpL_guard, ↓wpD_move, ↓wpD_assign, ↓wpD_pick, ↓wpD_binOp, ↓wpD_unOp, ↓wpD_builtin, ↓wpD_index, ↓wpD_indexAddr, ↓wpD_convert, ↓wpD_alloc, ↓wpD_load, ↓wpD_store, ↓wpD_nilCheck, ↓wpD_makeInterface, ↓wpD_makeFunc, ↓wpD_makeMap, ↓wpD_slice, ↓wpD_fieldAddr, ↓wpD_field, ↓wpD_lookup, ↓wpD_mapUpdate, ↓wpD_typeAssert, ↓wpD_extract, ↓wpD_range, ↓wpD_next, ↓wpD_build, ↓wpD_buildSlice, ↓wpD_call, ↓wpD_callv, Bd_some, Gd_true, Gd_false, seqK_normal, seqK_exit, seqK_goto, seqK_ret, blockK_normal, blockK_same, blockK_ne, blockK_goto, blockK_ret, dstOk_some, dstOk_none, Nat.reduceLT, true_and, dstAt_zero, dstAt_succ, putO_none, putO_some, ev_tm, ev_int, ev_bool, ev_str, ev_func, ev_nilptr, ev_nilslice, ev_nilmap, upd_at, Nat.reduceEqDiff, if_true, if_false, Option.bind_some, Option.map_some, boolOf_bool, noHints_freeze, noHints_heap, moveA_false, pickA_true, pickA_false, argsE_eq, partsA_eq, partsE, List.mapM_cons, List.mapM_nil, Option.pure_def, Option.bind_eq_bind, optA_none, optA_some, builtinA_len, builtinA_append, binOpA_lss, binOpA_leq, binOpA_gtr, binOpA_geq, binOpA_eql, binOpA_neq, binOpA_add, binOpA_sub, binOpA_mul, binOpA_seql, binOpA_sneq, unOpA_not, natOf_nat, natOf_int, Int.reduceLE, Int.reduceToNat, boundA_int, new_next, set_next, new_objs, set_objs, flat_int, flat_bool, flat_str, flat_agg, extractA_tuple, boundA_none, loadA_rptr, List.getElem?_cons_zero, List.getElem?_cons_succ, List.getD_cons_zero, List.getD_cons_succ, Nat.reduceBEq, Int.reduceBEq, Int.reduceBNe, Int.reduceLT, eq_self, Bool.false_eq_true, decide_true, decide_false, beqT, beqF, Gd_not, resE_one, resE_two, Bool.not_true, Bool.not_false, decide_true, decide_false, beq_self_eq_true, List.toList_toArray, h, e32, e9]
    simp [blank, h]
  · simp only [↓wpC_skip, ↓wpC_label, ↓wpC_seq, ↓wpC_cond, ↓wpC_block, ↓wpC_exit, ↓wpC_goto, ↓wpC_ret, ↓wpC_region, ↓wpC_draw, ↓wpC_loop, ↓wpC_scope, ↓wpR_nil, ↓wpR_cons, ↓wpR_guard, ↓wpD_box, ↓wpL_nil, ↓wpL_cons, ↓wpL_guard, ↓wpD_move, ↓wpD_assign, ↓wpD_pick, ↓wpD_binOp, ↓wpD_unOp, ↓wpD_builtin, ↓wpD_index, ↓wpD_indexAddr, ↓wpD_convert, ↓wpD_alloc, ↓wpD_load, ↓wpD_store, ↓wpD_nilCheck, ↓wpD_makeInterface, ↓wpD_makeFunc, ↓wpD_makeMap, ↓wpD_slice, ↓wpD_fieldAddr, ↓wpD_field, ↓wpD_lookup, ↓wpD_mapUpdate, ↓wpD_typeAssert, ↓wpD_extract, ↓wpD_range, ↓wpD_next, ↓wpD_build, ↓wpD_buildSlice, ↓wpD_call, ↓wpD_callv, Bd_some, Gd_true, Gd_false, seqK_normal, seqK_exit, seqK_goto, seqK_ret, blockK_normal, blockK_same, blockK_ne, blockK_goto, blockK_ret, dstOk_some, dstOk_none, Nat.reduceLT, true_and, dstAt_zero, dstAt_succ, putO_none, putO_some, ev_tm, ev_int, ev_bool, ev_str, ev_func, ev_nilptr, ev_nilslice, ev_nilmap, upd_at, Nat.reduceEqDiff, if_true, if_false, Option.bind_some, Option.map_some, boolOf_bool, noHints_freeze, noHints_heap, moveA_false, pickA_true, pickA_false, argsE_eq, partsA_eq, partsE, List.mapM_cons, List.mapM_nil, Option.pure_def, Option.bind_eq_bind, optA_none, optA_some, builtinA_len, builtinA_append, binOpA_lss, binOpA_leq, binOpA_gtr, binOpA_geq, binOpA_eql, binOpA_neq, binOpA_add, binOpA_sub, binOpA_mul, binOpA_seql, binOpA_sneq, unOpA_not, natOf_nat, natOf_int, Int.reduceLE, Int.reduceToNat, boundA_int, new_next, set_next, new_objs, set_objs, flat_int, flat_bool, flat_str, flat_agg, extractA_tuple, boundA_none, loadA_rptr, List.getElem?_cons_zero, List.getElem?_cons_succ, List.getD_cons_zero, List.getD_cons_succ, Nat.reduceBEq, Int.reduceBEq, Int.reduceBNe, Int.reduceLT, eq_self, Bool.false_eq_true, decide_true, decide_false, beqT, beqF, Gd_not, resE_one, resE_two, Bool.not_true, Bool.not_false, decide_true, decide_false, beq_self_eq_true, List.toList_toArray, h, e32, e9]
    simp [blank, h]

theorem below_drewN (w : World) : ∀ n, Below w.heap.size w (w.drewN n)
  | 0 => Below.refl _ _
  | n + 1 => (below_drewN w n).drew
theorem below_grow (w : World) (k : Nat) (os : Array Obj) : Below w.heap.size w (Go.Sort.grow (w.drewN k) os) := by
  have h := below_drewN w k
  refine h.trans ⟨rfl, rfl, rfl, by simp [Go.Sort.grow], fun i hi => ?_⟩
  have := h.size
  show ((w.drewN k).heap ++ os)[i]? = _
  rw [Array.getElem?_append_left (by omega)]
/-- A new row of cells, full. -/
theorem full_row {E : World → Prop} {base : Nat} {σ : Sim} {w w' : World} {H : Heap} (hE : ∀ a b, E a → Below base a b → E b) (hR : Rep E base σ w H) (hb : Below w.heap.size w w') {A : Nat} (hA : w.heap.size ≤ A)
    {xs : List ByteArray} {cur : Array Value} {ty : TypeId} {fr : Nat × Nat} (hh : w'.heap[A]? = some (.cells cur ty fr)) (hcur : cur.toList.take xs.length = xs.map Value.string) :
    ∃ σ', Rep E base σ' w' H ∧ Goes base σ w σ' w' ∧ Vr σ' w' (.slice .full 1 (xs.map .str) xs.length) (.slice (some ⟨A, 0, none⟩) xs.length xs.length) := by
  have hv : ∀ l : List ByteArray, toL (l.map AV.str) = some (l.map Value.string) := by
    intro l
    induction l with
    | nil => rfl
    | cons x r ih => simp [toL, toS0, ih]
  obtain ⟨h1, h2⟩ := toL_vr (σ := σ) (w := w) (hv xs)
  exact newFull hE hR (grow_of hb) hA hh (Nat.le_refl _) (by simp) (by rw [Nat.mul_one]; exact hcur) h1 h2 .full (fun _ => rfl)

section
variable {W : World} {m : Int}

theorem splitB_len (s sep : ByteArray) (h1 : 1 ≤ sep.size) : (Lib.splitB sep 0 (Lib.countB s sep) s).length = Lib.countB s sep + 1 := Lib.splitB_all sep h1 0 _ s rfl

theorem enters {f : FuncId} {fn : Func} (hf : Tryd.prog.funcs[f]? = some fn) (hb : fn.body.isSome = true) (hn : decide (fn.name = "runtime.NumGoroutine") = false) : AM.Enters Tryd.prog f :=
  ⟨fn, hf, hb, by simpa using hn⟩

theorem args1 {σ : Sim} {w : World} {a : AV} {us : Array Value} (h : VrL σ w [a] us.toList) : ∃ u, us = #[u] ∧ Vr σ w a u := by
  obtain ⟨l⟩ := us
  cases h with | cons h1 h2 => cases h2; exact ⟨_, rfl, h1⟩
theorem args2 {σ : Sim} {w : World} {a b : AV} {us : Array Value} (h : VrL σ w [a, b] us.toList) : ∃ u v, us = #[u, v] ∧ Vr σ w a u ∧ Vr σ w b v := by
  obtain ⟨l⟩ := us
  cases h with | cons h1 h2 => cases h2 with | cons h3 h4 => cases h4; exact ⟨_, _, rfl, h1, h3⟩

theorem prims_ok (hsz : 0 < W.heap.size) (hm : W.cell? ⟨0, 0, none⟩ = some (.int .i64 m)) (htab : ∀ w, Below W.heap.size W w → Lib.TabIs Tryd.prog w "internal/strconv.uint64pow10" .u64 Lib.pow10Tab) :
    PrimsOk Tryd.prog (Below W.heap.size W) W.heap.size prims := by
  have hE : ∀ a b, Below W.heap.size W a → Below W.heap.size a b → Below W.heap.size W b := fun a b h k => h.trans k
  intro f p hp
  unfold prims at hp
  split at hp
  · -- Split
    cases hp
    refine ⟨enters func15 (by decide) (by decide), fun args H v H' hc σ w us hR hv => ?_⟩
    unfold pSplit at hc
    split at hc
    · rename_i s sep
      split at hc
      · rename_i hs
        cases hc
        obtain ⟨u, u', rfl, h1, h2⟩ := args2 hv
        cases h1; cases h2
        have hm' : w.cell? ⟨0, 0, none⟩ = some (.int .i64 m) := by rw [← hm]; exact World.cell?_of_block (hR.env.block 0 hsz)
        refine (strings_Split s sep m w hs.1 hm' hs.2).mono fun e w' h => ?_
        obtain ⟨rfl, rfl⟩ := h
        have hlen := splitB_len s sep hs.2
        rw [← hlen]
        obtain ⟨σ', a, b, c⟩ := full_row (xs := Lib.splitB sep 0 (Lib.countB s sep) s) hE hR ((Below.refl _ w).alloc (Nat.le_refl _) (.cells ((Lib.splitB sep 0 (Lib.countB s sep) s).map Value.string).toArray 9)) (Nat.le_refl _) (cur := ((Lib.splitB sep 0 (Lib.countB s sep) s).map Value.string).toArray) (ty := 9) (fr := (0, 0)) (by
          show (w.heap.push _)[w.heap.size]? = _
          simp) (by rw [List.toList_toArray, List.take_of_length_le (by simp)])
        exact ⟨_, σ', rfl, c, a, b⟩
      · cases hc
    · cases hc
  · -- FieldsFunc
    cases hp
    refine ⟨enters func33 (by decide) (by decide), fun args H v H' hc σ w us hR hv => ?_⟩
    unfold pFields at hc
    split at hc
    · rename_i s
      split at hc
      · rename_i hs
        cases hc
        obtain ⟨u, u', rfl, h1, h2⟩ := args2 hv
        cases h1; cases h2; rename_i fs cs hf1 hf2
        obtain ⟨l1⟩ := fs
        obtain ⟨l2⟩ := cs
        cases hf1; cases hf2
        refine (strings_FieldsFunc_grows 34 #[] (enters_of func34 (by kernel_rfl) rfl) blank s w hs ?_).mono fun e w' h => ?_
        · intro W1 x hx hb
          obtain ⟨v, H', ⟨n, hn⟩, rfl⟩ := words1_runs x H0
          refine (call_sound (E := Below W1.heap.size W1) (base := W1.heap.size) (fun a b h k => h.trans k) (fun f p h => by cases h) (hn n (Nat.le_refl _)) (sim0 W1) W1 _ (rep0 (Below.refl _ _)) (.cons (.int _ _) .nil)).mono fun e W' h => ?_
          obtain ⟨u, σ', rfl, hu, _, hg⟩ := h
          cases hu
          exact ⟨rfl, hg.below⟩
        · obtain ⟨A, rfl, hA, ho, hb⟩ := h
          obtain ⟨_, ho | ⟨g, cap, cur, he, _, hh, _, _, _, hcur⟩⟩ := ho
          · cases ho.1
          · cases he
            rw [Nat.mul_one] at hcur
            obtain ⟨σ', a, b, c⟩ := full_row (xs := Lib.goFieldsP blank s) hE hR hb hA hh hcur
            exact ⟨_, σ', rfl, c, a, b⟩
      · cases hc
    · cases hc
  · -- Atoi
    cases hp
    refine ⟨enters func43 (by decide) (by decide), fun args H v H' hc σ w us hR hv => ?_⟩
    unfold pAtoi at hc
    split at hc
    · rename_i s
      split at hc
      · rename_i hs
        split at hc
        · rename_i n hn
          cases hc
          obtain ⟨u, rfl, h1⟩ := args1 hv
          cases h1
          refine (strconv_Atoi s n hs hn w).mono fun e w' h => ?_
          obtain ⟨rfl, t, rfl⟩ := h
          obtain ⟨a, b⟩ := hR.grow hE (grow_of (Lib.bytesWorld_below w 5 t))
          exact ⟨_, σ, rfl, .tuple (.cons (.int _ _) (.cons .nilIface .nil)), a, b⟩
        · cases hc
      · cases hc
    · cases hc
  · -- Itoa
    cases hp
    refine ⟨enters func25 (by decide) (by decide), fun args H v H' hc σ w us hR hv => ?_⟩
    unfold pItoa at hc
    split at hc
    · rename_i n
      split at hc
      · rename_i hs
        cases hc
        obtain ⟨u, rfl, h1⟩ := args1 hv
        cases h1
        refine (strconv_Itoa n hs.1 hs.2 w (htab w hR.env)).mono fun e w' h => ?_
        obtain ⟨rfl, k, os, rfl⟩ := h
        obtain ⟨a, b⟩ := hR.grow hE (grow_of (below_grow w k os))
        exact ⟨_, σ, rfl, .str _, a, b⟩
      · cases hc
    · cases hc
  · -- Join
    cases hp
    refine ⟨enters func38 (by decide) (by decide), fun args H v H' hc σ w us hR hv => ?_⟩
    unfold pJoin at hc
    split at hc
    · rename_i r cs n sep
      split at hc
      · rename_i xs hx
        split at hc
        · rename_i hs
          cases hc
          obtain ⟨u, u', rfl, h1, h2⟩ := args2 hv
          cases h2
          cases h1 with | @slice _ _ _ _ g o c vs hl hc hlies hvv ho hr =>
          have key : ∀ (l : List AV) (ys : List ByteArray) (us : List Value), strsOf l = some ys → VrL σ w l us → us = ys.map Value.string := by
            intro l
            induction l with
            | nil =>
              intro ys us h k
              cases h; cases k; rfl
            | cons x r ih =>
              intro ys us h k
              cases k with | cons ka kb =>
              cases x <;> simp only [strsOf, reduceCtorEq] at h
              cases hy : strsOf r with
              | none => rw [hy] at h; cases h
              | some zs =>
                rw [hy] at h; cases h
                cases ka
                rw [ih zs _ hy kb]; rfl
          have hvs := key cs xs vs hx hvv
          have hc0 : ∀ (j : Nat) x, xs[j]? = some x → w.cell? ⟨g, o + j, none⟩ = some (.string x) := fun j x hj => (hlies j _ (by rw [hvs, List.getElem?_map, hj]; rfl)).1
          have hg : g < w.heap.size := by
            obtain ⟨x, hx0⟩ : ∃ x, xs[0]? = some x := ⟨_, List.getElem?_eq_getElem (by omega)⟩
            have := hc0 0 x hx0
            unfold World.cell? at this
            simp only at this
            cases hq : w.heap[g]? with
            | none => rw [hq] at this; cases this
            | some o => exact (Array.getElem?_eq_some_iff.mp hq).1
          have hk := strings_Join g o c xs sep w hc0 hg (by omega) (by omega) hs.2.2.1
          rw [hs.1] at hk
          refine hk.mono fun e w' h => ?_
          obtain ⟨rfl, hb⟩ := h
          obtain ⟨a, b⟩ := hR.grow hE (grow_of hb)
          exact ⟨_, σ, rfl, .str _, a, b⟩
        · cases hc
      · cases hc
    · cases hc
  · cases hp
end
end Go.Proofs.Tryd
