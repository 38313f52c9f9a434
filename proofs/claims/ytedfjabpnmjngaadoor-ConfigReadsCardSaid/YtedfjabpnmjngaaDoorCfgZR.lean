/- For every row of ints and every text, ConfigReads returns true and leaves its arguments as they were. Conditions: none but the row's own (the listed package variables hold what the program's text lays). -/
/- ConfigReads: for every input the law returns true; its card. No condition. -/
import Derived.Test.YtedfjabpnmjngaaDoorCfgZ
import Derived.Test.YtedfjabpnmjngaaDoorRefF
set_option linter.unusedSimpArgs false
set_option linter.unusedVariables false
namespace Go.Proofs.YtedfjabpnmjngaaDoor.configReadsL
open Go Go.AM Go.ChangeShapes Go.WideShapes Go.ChangeAt Go.RowKit Go.Proofs.YtedfjabpnmjngaaDoor

set_option maxRecDepth 100000 in
theorem contract (H : Type) (enc : TypeId × Value → H) (W : World) (base : Nat) (args : Array Value) (ds gs : List (DataW H)) (before : List MemPlace)
    (hval : ∀ (j : Nat) t v, Tryd.f3.params[j]? = some t → args[j]? = some v → Value.okWide Tryd.prog W .any base t v)
    (hW : DataW.Whole enc Tryd.prog Tryd.f3.params.toList Rows.configReadsSpec.vars false W args.toList ds gs before) (hL : laidMet Tryd.prog laidList W) (hsh : W.ShapedOpen Tryd.prog) :
    Calls Tryd.prog 3 args W fun e W' => ∃ v, e = .returned v ∧ Rows.configReadsSpec.post enc Tryd.prog Tryd.f3 false true false false W args v W' := by
  have hW' := hW
  obtain ⟨p, q, hA0, hV, rfl, hfz, hnd⟩ := hW
  have hA : DataW.TrodAll enc Tryd.prog W 0 (fun _ => true) true Tryd.f3.params.toList args.toList ds p := hA0
  rw [Tryd.params3] at hA hval
  obtain ⟨v0, vs0, d0, ds0, p0, q0, hargs, rfl, rfl, h0, r0⟩ := trodAll_cons hA
  obtain ⟨v1, vs1, d1, ds1, p1, q1, rfl, rfl, rfl, h1, r1⟩ := trodAll_cons r0
  obtain ⟨rfl, rfl, rfl⟩ := trodAll_nil r1
  obtain rfl : args = #[v0, v1] := by cases args; simp_all
  obtain ⟨x0, b0, e0, c0⟩ := row_int (hval 0 22 v0 rfl rfl) h0
  obtain ⟨x1, c1, _⟩ := arg_str (σ := sim0 W) Tryd.underlying9 (hval 1 9 v1 rfl rfl)
  obtain ⟨v, H', hr, rfl⟩ := Tryd.reads_runs x0 b0 e0 x1
  have hans : Answers Tryd.prog 3 #[v0, v1] W (.bool true) :=
    runs_answers (E := Below W.heap.size W) (fun _ _ h k => h.trans k) (prims_of hL hsh) (Below.refl _ _) hr (.cons c0 (.cons c1 .nil))
  refine hans.mono fun e W' h => ?_
  obtain ⟨rfl, hb⟩ := h
  exact ⟨_, rfl, post_true (by kernel_rfl) hb (by kernel_rfl) rfl rfl Tryd.underlying4 hW' rfl⟩

theorem reads (os : Os) {H : Type} (enc : TypeId × Value → H) : ∃ places, DataW.whole enc Tryd.prog ((laidWorld os).forCall (fun _ _ => 0) ⟨#[], #[Value.slice none 0 0, .string ⟨#[]⟩], []⟩).memory Tryd.f3.params.toList Rows.configReadsSpec.vars false
    #[Value.slice none 0 0, .string ⟨#[]⟩].toList 8 = some ([.nil, .lit (.string [])], [], places) :=
  ⟨[], by kernel_rfl⟩

set_option maxRecDepth 100000 in
theorem lifted (os : Os) (started : os.Started) (H : Type) (enc : TypeId × Value → H) (F : Stop.Interp) :
    ReturnsInHanded {} Tryd.checked os 3 .any ((OpenSpec.ofChange Rows.configReadsSpec).preRow enc Tryd.prog Tryd.f3 Rows.configReadsRow.domain false Rows.configReadsRow.laid) (((OpenSpec.ofChange Rows.configReadsSpec).at F).post enc Tryd.prog Tryd.f3 false true false false) := by
  obtain ⟨places, hx⟩ := reads os enc
  refine returnsInHanded_of_row (C := Tryd.checked) (s := OpenSpec.ofChange Rows.configReadsSpec) own started (by kernel_rfl) Tryd.func3
    (witness_row_atRef (enc := enc) (C := Tryd.checked) false (laidWorld os) #[Value.slice none 0 0, .string ⟨#[]⟩] rfl (by kernel_rfl) (by kernel_rfl) (by kernel_rfl)
      (OpenSpec.preRow_of_cond 8 hx (by kernel_rfl) (fun k hk => by cases hk) (by kernel_rfl) (laid_met os _))) ?_
  intro W base args ds gs before hval hW _ _ _ hL hsh _
  exact contract H enc W base args ds gs before hval hW hL hsh

theorem said : Rows.ConfigReadsSaid :=
  OpenClaim.holds_of_cond 3 Tryd.f3 rfl rfl rfl rfl rfl rfl rfl ⟨rfl, rfl, rfl, rfl, rfl⟩ rfl rfl rfl rfl rfl (by kernel_rfl) Tryd.func3 (by kernel_rfl)
    (of_decide_eq_true (by kernel_rfl)) (by unfold Func.isWrapper; first | (rw [if_pos (by decide +kernel)]; kernel_rfl) | (rw [if_neg (by decide +kernel)]; exact ⟨rfl, rfl⟩))
    (fun os started H enc _ F => by rw [OpenClaim.pre_eq_preRow]; exact lifted os started H enc F)

theorem plain (f : FuncId) (fn : Func) (hf : Tryd.pinned.checked.prog.funcNamed "corrector/correctorlaw18.ConfigReads" = some f) (hfn : Tryd.pinned.checked.prog.funcs[f]? = some fn) :
    true = Tryd.pinned.checked.prog.looks [] ∧ ∀ (j : Nat) t, fn.params[j]? = some t → Tryd.pinned.checked.prog.wantsStandIn t = false := by
  obtain rfl : f = 3 := Option.some.inj ((show Tryd.prog.funcNamed "corrector/correctorlaw18.ConfigReads" = some 3 by kernel_rfl).symm.trans hf) |>.symm
  obtain rfl : fn = Tryd.f3 := (Option.some.inj (Tryd.func3.symm.trans hfn)).symm
  refine ⟨by kernel_rfl, fun j t ht => ?_⟩
  rw [Tryd.params3] at ht
  have : t = 22 ∨ t = 9 := by simpa using Array.mem_of_getElem? ht
  rcases this with rfl | rfl <;> (show _ = _; kernel_rfl)
end Go.Proofs.YtedfjabpnmjngaaDoor.configReadsL
namespace Go.Proofs.YtedfjabpnmjngaaDoor
open Go
/-- The card. -/
theorem configReadsLCard : Rows.ConfigReadsCardSaid :=
  Claim7.holds_tied_plain_at .later [] _ _ _ _ configReadsL.said (fun _ h => by cases h) (by kernel_rfl) (fun _ h => by cases h) configReads_row_tie rfl ⟨rfl, rfl⟩ (by kernel_rfl) rfl configReadsL.plain (by kernel_rfl)
#print axioms configReadsLCard
end Go.Proofs.YtedfjabpnmjngaaDoor
