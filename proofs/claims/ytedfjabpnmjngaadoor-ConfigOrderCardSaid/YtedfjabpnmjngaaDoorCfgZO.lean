/- For every row of bools and every two ints, ConfigOrder returns true and leaves its arguments as they were. Conditions: none but the row's own (the listed package variables hold what the program's text lays). -/
/- ConfigOrder: for every input the law returns true; its card. No condition. -/
import Derived.Test.YtedfjabpnmjngaaDoorCfgZ
import Derived.Test.YtedfjabpnmjngaaDoorRefH
set_option linter.unusedSimpArgs false
set_option linter.unusedVariables false
namespace Go.Proofs.YtedfjabpnmjngaaDoor.configOrderL
open Go Go.AM Go.ChangeShapes Go.WideShapes Go.ChangeAt Go.RowKit Go.Proofs.YtedfjabpnmjngaaDoor

set_option maxRecDepth 100000 in
theorem contract (H : Type) (enc : TypeId × Value → H) (W : World) (base : Nat) (args : Array Value) (ds gs : List (DataW H)) (before : List MemPlace)
    (hval : ∀ (j : Nat) t v, Tryd.f5.params[j]? = some t → args[j]? = some v → Value.okWide Tryd.prog W .any base t v)
    (hW : DataW.Whole enc Tryd.prog Tryd.f5.params.toList Rows.configOrderSpec.vars false W args.toList ds gs before) (hL : laidMet Tryd.prog laidList W) (hsh : W.ShapedOpen Tryd.prog) :
    Calls Tryd.prog 5 args W fun e W' => ∃ v, e = .returned v ∧ Rows.configOrderSpec.post enc Tryd.prog Tryd.f5 false true false false W args v W' := by
  have hW' := hW
  obtain ⟨p, q, hA0, hV, rfl, hfz, hnd⟩ := hW
  have hA : DataW.TrodAll enc Tryd.prog W 0 (fun _ => true) true Tryd.f5.params.toList args.toList ds p := hA0
  rw [Tryd.params5] at hA hval
  obtain ⟨v0, vs0, d0, ds0, p0, q0, hargs, rfl, rfl, h0, r0⟩ := trodAll_cons hA
  obtain ⟨v1, vs1, d1, ds1, p1, q1, rfl, rfl, rfl, h1, r1⟩ := trodAll_cons r0
  obtain ⟨v2, vs2, d2, ds2, p2, q2, rfl, rfl, rfl, h2, r2⟩ := trodAll_cons r1
  obtain ⟨rfl, rfl, rfl⟩ := trodAll_nil r2
  obtain rfl : args = #[v0, v1, v2] := by cases args; simp_all
  obtain ⟨x0, b0, e0, c0⟩ := row_bool (hval 0 35 v0 rfl rfl) h0
  obtain ⟨x1, c1, _, _⟩ := arg_int (σ := sim0 W) Tryd.underlying3 (hval 1 3 v1 rfl rfl)
  obtain ⟨x2, c2, _, _⟩ := arg_int (σ := sim0 W) Tryd.underlying3 (hval 2 3 v2 rfl rfl)
  obtain ⟨v, H', hr, rfl⟩ := Tryd.order_runs x0 b0 e0 x1 x2
  have hans : Answers Tryd.prog 5 #[v0, v1, v2] W (.bool true) :=
    runs_answers (E := Below W.heap.size W) (fun _ _ h k => h.trans k) (prims_of hL hsh) (Below.refl _ _) hr (.cons c0 (.cons c1 (.cons c2 .nil)))
  refine hans.mono fun e W' h => ?_
  obtain ⟨rfl, hb⟩ := h
  exact ⟨_, rfl, post_true (by kernel_rfl) hb (by kernel_rfl) rfl rfl Tryd.underlying4 hW' rfl⟩

theorem reads (os : Os) {H : Type} (enc : TypeId × Value → H) : ∃ places, DataW.whole enc Tryd.prog ((laidWorld os).forCall (fun _ _ => 0) ⟨#[], #[Value.slice none 0 0, .int .i64 0, .int .i64 0], []⟩).memory Tryd.f5.params.toList Rows.configOrderSpec.vars false
    #[Value.slice none 0 0, .int .i64 0, .int .i64 0].toList 8 = some ([.nil, .lit (.int .i64 0), .lit (.int .i64 0)], [], places) :=
  ⟨[], by kernel_rfl⟩

set_option maxRecDepth 100000 in
theorem lifted (os : Os) (started : os.Started) (H : Type) (enc : TypeId × Value → H) (F : Stop.Interp) :
    ReturnsInHanded {} Tryd.checked os 5 .any ((OpenSpec.ofChange Rows.configOrderSpec).preRow enc Tryd.prog Tryd.f5 Rows.configOrderRow.domain false Rows.configOrderRow.laid) (((OpenSpec.ofChange Rows.configOrderSpec).at F).post enc Tryd.prog Tryd.f5 false true false false) := by
  obtain ⟨places, hx⟩ := reads os enc
  refine returnsInHanded_of_row (C := Tryd.checked) (s := OpenSpec.ofChange Rows.configOrderSpec) own started (by kernel_rfl) Tryd.func5
    (witness_row_atRef (enc := enc) (C := Tryd.checked) false (laidWorld os) #[Value.slice none 0 0, .int .i64 0, .int .i64 0] rfl (by kernel_rfl) (by kernel_rfl) (by kernel_rfl)
      (OpenSpec.preRow_of_cond 8 hx (by kernel_rfl) (fun k hk => by cases hk) (by kernel_rfl) (laid_met os _))) ?_
  intro W base args ds gs before hval hW _ _ _ hL hsh _
  exact contract H enc W base args ds gs before hval hW hL hsh

theorem said : Rows.ConfigOrderSaid :=
  OpenClaim.holds_of_cond 5 Tryd.f5 rfl rfl rfl rfl rfl rfl rfl ⟨rfl, rfl, rfl, rfl, rfl⟩ rfl rfl rfl rfl rfl (by kernel_rfl) Tryd.func5 (by kernel_rfl)
    (of_decide_eq_true (by kernel_rfl)) (by unfold Func.isWrapper; first | (rw [if_pos (by decide +kernel)]; kernel_rfl) | (rw [if_neg (by decide +kernel)]; exact ⟨rfl, rfl⟩))
    (fun os started H enc _ F => by rw [OpenClaim.pre_eq_preRow]; exact lifted os started H enc F)

theorem plain (f : FuncId) (fn : Func) (hf : Tryd.pinned.checked.prog.funcNamed "corrector/correctorlaw18.ConfigOrder" = some f) (hfn : Tryd.pinned.checked.prog.funcs[f]? = some fn) :
    true = Tryd.pinned.checked.prog.looks [] ∧ ∀ (j : Nat) t, fn.params[j]? = some t → Tryd.pinned.checked.prog.wantsStandIn t = false := by
  obtain rfl : f = 5 := Option.some.inj ((show Tryd.prog.funcNamed "corrector/correctorlaw18.ConfigOrder" = some 5 by kernel_rfl).symm.trans hf) |>.symm
  obtain rfl : fn = Tryd.f5 := (Option.some.inj (Tryd.func5.symm.trans hfn)).symm
  refine ⟨by kernel_rfl, fun j t ht => ?_⟩
  rw [Tryd.params5] at ht
  have : t = 35 ∨ t = 3 ∨ t = 3 := by simpa using Array.mem_of_getElem? ht
  rcases this with rfl | rfl | rfl <;> (show _ = _; kernel_rfl)
end Go.Proofs.YtedfjabpnmjngaaDoor.configOrderL
namespace Go.Proofs.YtedfjabpnmjngaaDoor
open Go
/-- The card. -/
theorem configOrderLCard : Rows.ConfigOrderCardSaid :=
  Claim7.holds_tied_plain_at .later [] _ _ _ _ configOrderL.said (fun _ h => by cases h) (by kernel_rfl) (fun _ h => by cases h) configOrder_row_tie rfl ⟨rfl, rfl⟩ (by kernel_rfl) rfl configOrderL.plain (by kernel_rfl)
#print axioms configOrderLCard
end Go.Proofs.YtedfjabpnmjngaaDoor
