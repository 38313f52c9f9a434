/- For every config, ConfigPrints returns true and leaves its argument as it was. Conditions: none but the row's own (the listed package variables hold what the program's text lays). -/
/- ConfigPrints: for every config the law returns true; its card. No condition. -/
import Derived.Test.YtedfjabpnmjngaaDoorCfgZ
import Derived.Test.YtedfjabpnmjngaaDoorCfgU
set_option linter.unusedSimpArgs false
set_option linter.unusedVariables false
namespace Go.Proofs.YtedfjabpnmjngaaDoor.prints
open Go Go.AM Go.ChangeShapes Go.WideShapes Go.ChangeAt Go.RowKit Go.Proofs.YtedfjabpnmjngaaDoor

set_option maxRecDepth 100000 in
theorem cell_bool {W : World} {r : Reach} {b0 : Nat} {x : Value} (h : Cell.okWide Tryd.prog W r b0 4 x) : ∃ b, x = .bool b := by
  simp only [Cell.okWide, Tryd.underlying4] at h
  cases x <;> simp only [Cell.ok, Tryd.underlying4] at h
  exact ⟨_, rfl⟩
set_option maxRecDepth 100000 in
theorem cell_int {W : World} {r : Reach} {b0 : Nat} {x : Value} (h : Cell.okWide Tryd.prog W r b0 3 x) : ∃ n, x = .int .i64 n := by
  simp only [Cell.okWide, Tryd.underlying3] at h
  cases x <;> simp only [Cell.ok, Tryd.underlying3] at h
  obtain ⟨rfl, _⟩ := h
  exact ⟨_, rfl⟩
set_option maxRecDepth 100000 in
theorem arg_cfg {W : World} {r : Reach} {b0 : Nat} {v : Value} (hv : Value.okWide Tryd.prog W r b0 28 v) : ∃ c : Tryd.Cfg, c.on.length = 10 ∧ Vr (sim0 W) W (.agg c.cells) v := by
  unfold Value.okWide at hv
  rw [Tryd.underlying28] at hv
  obtain ⟨cs, rfl, hsz, ts, hts, _, hcell⟩ := hv
  have e : Tryd.prog.cellTypes Tryd.prog.depth 28 = some [4, 4, 4, 4, 4, 4, 4, 4, 4, 4, 3, 3, 3, 3] := by kernel_rfl
  rw [e] at hts
  cases hts
  have e2 : Tryd.prog.cellsOf 28 = 14 := by kernel_rfl
  rw [e2] at hsz
  obtain ⟨l⟩ := cs
  have hb : ∀ i x, i < 10 → l[i]? = some x → ∃ b, x = .bool b := by
    intro i x hi hx
    obtain ⟨u, hu, hc⟩ := hcell i x (by rw [List.getElem?_toArray]; exact hx)
    have : u = 4 := by
      match i, hi with
      | 0, _ | 1, _ | 2, _ | 3, _ | 4, _ | 5, _ | 6, _ | 7, _ | 8, _ | 9, _ => cases hu; rfl
    subst this
    exact cell_bool hc
  have hn : ∀ i x, 10 ≤ i → i < 14 → l[i]? = some x → ∃ n, x = .int .i64 n := by
    intro i x h10 hi hx
    obtain ⟨u, hu, hc⟩ := hcell i x (by rw [List.getElem?_toArray]; exact hx)
    have : u = 3 := by
      match i, h10, hi with
      | 10, _, _ | 11, _, _ | 12, _, _ | 13, _, _ => cases hu; rfl
    subst this
    exact cell_int hc
  have hl : l.length = 14 := by simpa using hsz
  obtain ⟨a0, a1, a2, a3, a4, a5, a6, a7, a8, a9, a10, a11, a12, a13, rfl⟩ : ∃ a0 a1 a2 a3 a4 a5 a6 a7 a8 a9 a10 a11 a12 a13, l = [a0, a1, a2, a3, a4, a5, a6, a7, a8, a9, a10, a11, a12, a13] := by
    match l, hl with
    | [a0, a1, a2, a3, a4, a5, a6, a7, a8, a9, a10, a11, a12, a13], _ => exact ⟨a0, a1, a2, a3, a4, a5, a6, a7, a8, a9, a10, a11, a12, a13, rfl⟩
  obtain ⟨b0, rfl⟩ := hb 0 a0 (by omega) rfl
  obtain ⟨b1, rfl⟩ := hb 1 a1 (by omega) rfl
  obtain ⟨b2, rfl⟩ := hb 2 a2 (by omega) rfl
  obtain ⟨b3, rfl⟩ := hb 3 a3 (by omega) rfl
  obtain ⟨b4, rfl⟩ := hb 4 a4 (by omega) rfl
  obtain ⟨b5, rfl⟩ := hb 5 a5 (by omega) rfl
  obtain ⟨b6, rfl⟩ := hb 6 a6 (by omega) rfl
  obtain ⟨b7, rfl⟩ := hb 7 a7 (by omega) rfl
  obtain ⟨b8, rfl⟩ := hb 8 a8 (by omega) rfl
  obtain ⟨b9, rfl⟩ := hb 9 a9 (by omega) rfl
  obtain ⟨n0, rfl⟩ := hn 10 a10 (by omega) (by omega) rfl
  obtain ⟨n1, rfl⟩ := hn 11 a11 (by omega) (by omega) rfl
  obtain ⟨n2, rfl⟩ := hn 12 a12 (by omega) (by omega) rfl
  obtain ⟨n3, rfl⟩ := hn 13 a13 (by omega) (by omega) rfl
  refine ⟨⟨[b0, b1, b2, b3, b4, b5, b6, b7, b8, b9], n0, n1, n2, n3⟩, rfl, ?_⟩
  exact .agg (.cons (.bool _) (.cons (.bool _) (.cons (.bool _) (.cons (.bool _) (.cons (.bool _) (.cons (.bool _) (.cons (.bool _) (.cons (.bool _) (.cons (.bool _) (.cons (.bool _)
    (.cons (.int _ _) (.cons (.int _ _) (.cons (.int _ _) (.cons (.int _ _) .nil)))))))))))))) rfl

set_option maxRecDepth 100000 in
theorem contract (H : Type) (enc : TypeId × Value → H) (W : World) (base : Nat) (args : Array Value) (ds gs : List (DataW H)) (before : List MemPlace)
    (hval : ∀ (j : Nat) t v, Tryd.f6.params[j]? = some t → args[j]? = some v → Value.okWide Tryd.prog W .any base t v)
    (hW : DataW.Whole enc Tryd.prog Tryd.f6.params.toList Rows.configPrintsSpec.vars false W args.toList ds gs before) (hL : laidMet Tryd.prog laidList W) (hsh : W.ShapedOpen Tryd.prog) :
    Calls Tryd.prog 6 args W fun e W' => ∃ v, e = .returned v ∧ Rows.configPrintsSpec.post enc Tryd.prog Tryd.f6 false true false false W args v W' := by
  have hW' := hW
  obtain ⟨p, q, hA0, hV, rfl, hfz, hnd⟩ := hW
  have hA : DataW.TrodAll enc Tryd.prog W 0 (fun _ => true) true Tryd.f6.params.toList args.toList ds p := hA0
  rw [Tryd.params6] at hA hval
  obtain ⟨v0, d0, rfl, rfl, h0⟩ := trodAll_one hA
  obtain ⟨c, hc, a0⟩ := arg_cfg (hval 0 28 v0 rfl rfl)
  obtain ⟨v, H', hr, rfl⟩ := Tryd.prints_runs c hc
  have hans : Answers Tryd.prog 6 #[v0] W (.bool true) :=
    runs_answers (E := Below W.heap.size W) (fun _ _ h k => h.trans k) (prims_of hL hsh) (Below.refl _ _) hr (.cons a0 .nil)
  refine hans.mono fun e W' h => ?_
  obtain ⟨rfl, hb⟩ := h
  exact ⟨_, rfl, post_true (by kernel_rfl) hb (by kernel_rfl) rfl rfl Tryd.underlying4 hW' rfl⟩

noncomputable def arg0 : Value := .agg (Tryd.cfgVals Tryd.zeroCfg).toArray
theorem reads (os : Os) {H : Type} (enc : TypeId × Value → H) : ∃ places, DataW.whole enc Tryd.prog ((laidWorld os).forCall (fun _ _ => 0) ⟨#[], #[arg0], []⟩).memory Tryd.f6.params.toList Rows.configPrintsSpec.vars false
    #[arg0].toList 8 = some ([.agg [.agg [.lit (.bool false), .lit (.bool false), .lit (.bool false), .lit (.bool false), .lit (.bool false), .lit (.bool false), .lit (.bool false), .lit (.bool false), .lit (.bool false), .lit (.bool false)], .lit (.int .i64 0), .lit (.int .i64 0), .lit (.int .i64 0), .lit (.int .i64 0)]], [], places) :=
  ⟨[], by kernel_rfl⟩

set_option maxRecDepth 100000 in
theorem lifted (os : Os) (started : os.Started) (H : Type) (enc : TypeId × Value → H) (F : Stop.Interp) :
    ReturnsInHanded {} Tryd.checked os 6 .any ((OpenSpec.ofChange Rows.configPrintsSpec).preRow enc Tryd.prog Tryd.f6 Rows.configPrintsRow.domain false Rows.configPrintsRow.laid) (((OpenSpec.ofChange Rows.configPrintsSpec).at F).post enc Tryd.prog Tryd.f6 false true false false) := by
  obtain ⟨places, hx⟩ := reads os enc
  refine returnsInHanded_of_row (C := Tryd.checked) (s := OpenSpec.ofChange Rows.configPrintsSpec) own started (by kernel_rfl) Tryd.func6
    (witness_row_atRef (enc := enc) (C := Tryd.checked) false (laidWorld os) #[arg0] rfl (by kernel_rfl) (by kernel_rfl) (by kernel_rfl)
      (OpenSpec.preRow_of_cond 8 hx (by kernel_rfl) (fun k hk => by cases hk) (by kernel_rfl) (laid_met os _))) ?_
  intro W base args ds gs before hval hW _ _ _ hL hsh _
  exact contract H enc W base args ds gs before hval hW hL hsh

theorem said : Rows.ConfigPrintsSaid :=
  OpenClaim.holds_of_cond 6 Tryd.f6 rfl rfl rfl rfl rfl rfl rfl ⟨rfl, rfl, rfl, rfl, rfl⟩ rfl rfl rfl rfl rfl (by kernel_rfl) Tryd.func6 (by kernel_rfl)
    (of_decide_eq_true (by kernel_rfl)) (by unfold Func.isWrapper; first | (rw [if_pos (by decide +kernel)]; kernel_rfl) | (rw [if_neg (by decide +kernel)]; exact ⟨rfl, rfl⟩))
    (fun os started H enc _ F => by rw [OpenClaim.pre_eq_preRow]; exact lifted os started H enc F)

theorem plain (f : FuncId) (fn : Func) (hf : Tryd.pinned.checked.prog.funcNamed "corrector/correctorlaw18.ConfigPrints" = some f) (hfn : Tryd.pinned.checked.prog.funcs[f]? = some fn) :
    true = Tryd.pinned.checked.prog.looks [] ∧ ∀ (j : Nat) t, fn.params[j]? = some t → Tryd.pinned.checked.prog.wantsStandIn t = false := by
  obtain rfl : f = 6 := Option.some.inj ((show Tryd.prog.funcNamed "corrector/correctorlaw18.ConfigPrints" = some 6 by kernel_rfl).symm.trans hf) |>.symm
  obtain rfl : fn = Tryd.f6 := (Option.some.inj (Tryd.func6.symm.trans hfn)).symm
  refine ⟨by kernel_rfl, fun j t ht => ?_⟩
  rw [Tryd.params6] at ht
  obtain rfl : t = 28 := by simpa using Array.mem_of_getElem? ht
  exact (show Tryd.prog.wantsStandIn 28 = false by kernel_rfl)
end Go.Proofs.YtedfjabpnmjngaaDoor.prints
namespace Go.Proofs.YtedfjabpnmjngaaDoor
open Go
/-- The card. -/
theorem printsCard : Rows.ConfigPrintsCardSaid :=
  Claim7.holds_tied_plain_at .later [] _ _ _ _ prints.said (fun _ h => by cases h) (by kernel_rfl) (fun _ h => by cases h) configPrints_row_tie rfl ⟨rfl, rfl⟩ (by kernel_rfl) rfl prints.plain (by kernel_rfl)
#print axioms printsCard
end Go.Proofs.YtedfjabpnmjngaaDoor
