/- For every rule, every row of bools and every row of ints, ConfigLast returns true and leaves its arguments as they were. Conditions: none but the row's own (the listed package variables hold what the program's text lays). -/
/- ConfigLast: for every input the law returns true; its card. No condition. -/
import Derived.Test.YtedfjabpnmjngaaDoorCfgZ
import Derived.Test.YtedfjabpnmjngaaDoorCfgO
set_option linter.unusedSimpArgs false
set_option linter.unusedVariables false
namespace Go.Proofs.YtedfjabpnmjngaaDoor.last
open Go Go.AM Go.ChangeShapes Go.WideShapes Go.ChangeAt Go.RowKit Go.Proofs.YtedfjabpnmjngaaDoor

set_option maxRecDepth 100000 in
theorem row_bool {H : Type} {enc : TypeId × Value → H} {W : World} {r : Reach} {b0 base : Nat} {spare : Nat → Bool} {held : Bool} {v : Value} {d : DataW H} {ps : List MemPlace}
    (hv : Value.okWide Tryd.prog W r b0 35 v) (hd : DataW.Trod enc Tryd.prog W base spare held 35 v d ps) : ∃ (l : List Bool) (a : AV), Row1 .bool a l ∧ Vr (sim0 W) W a v := by
  rcases arg_row (α := Bool) AV.bool (fun _ => True) Tryd.underlying35 (by kernel_rfl) (fun fuel x y h => by
    obtain ⟨b, hb, _⟩ := DataW.trod_bool Tryd.underlying4 h
    cases hb
    exact ⟨b, rfl, trivial⟩) hv hd with h | ⟨l, h, _, _⟩
  · exact ⟨[], _, .inl ⟨rfl, rfl⟩, h⟩
  · exact ⟨l, .slice .ro 1 (l.map AV.bool) l.length, .inr ⟨.ro, rfl⟩, h⟩
set_option maxRecDepth 100000 in
theorem row_int {H : Type} {enc : TypeId × Value → H} {W : World} {r : Reach} {b0 base : Nat} {spare : Nat → Bool} {held : Bool} {v : Value} {d : DataW H} {ps : List MemPlace}
    (hv : Value.okWide Tryd.prog W r b0 22 v) (hd : DataW.Trod enc Tryd.prog W base spare held 22 v d ps) : ∃ (l : List Int) (a : AV), Row1 (.int .i64) a l ∧ Vr (sim0 W) W a v := by
  rcases arg_row (α := Int) (AV.int .i64) (fun _ => True) Tryd.underlying22 (by kernel_rfl) (fun fuel x y h => by
    obtain ⟨b, hb, _⟩ := DataW.trod_int Tryd.underlying3 h
    cases hb
    exact ⟨b, rfl, trivial⟩) hv hd with h | ⟨l, h, _, _⟩
  · exact ⟨[], _, .inl ⟨rfl, rfl⟩, h⟩
  · exact ⟨l, .slice .ro 1 (l.map (AV.int .i64)) l.length, .inr ⟨.ro, rfl⟩, h⟩

set_option maxRecDepth 100000 in
theorem contract (H : Type) (enc : TypeId × Value → H) (W : World) (base : Nat) (args : Array Value) (ds gs : List (DataW H)) (before : List MemPlace)
    (hval : ∀ (j : Nat) t v, Tryd.f4.params[j]? = some t → args[j]? = some v → Value.okWide Tryd.prog W .any base t v)
    (hW : DataW.Whole enc Tryd.prog Tryd.f4.params.toList Rows.configLastSpec.vars false W args.toList ds gs before) (hL : laidMet Tryd.prog laidList W) (hsh : W.ShapedOpen Tryd.prog) :
    Calls Tryd.prog 4 args W fun e W' => ∃ v, e = .returned v ∧ Rows.configLastSpec.post enc Tryd.prog Tryd.f4 false true false false W args v W' := by
  have hW' := hW
  obtain ⟨p, q, hA0, hV, rfl, hfz, hnd⟩ := hW
  have hA : DataW.TrodAll enc Tryd.prog W 0 (fun _ => true) true Tryd.f4.params.toList args.toList ds p := hA0
  rw [Tryd.params4] at hA hval
  obtain ⟨v0, vs0, d0, ds0, p0, q0, hargs, rfl, rfl, h0, r0⟩ := trodAll_cons hA
  obtain ⟨v1, vs1, d1, ds1, p1, q1, rfl, rfl, rfl, h1, r1⟩ := trodAll_cons r0
  obtain ⟨v2, vs2, d2, ds2, p2, q2, rfl, rfl, rfl, h2, r2⟩ := trodAll_cons r1
  obtain ⟨rfl, rfl, rfl⟩ := trodAll_nil r2
  obtain rfl : args = #[v0, v1, v2] := by cases args; simp_all
  obtain ⟨n, a0, _, _⟩ := arg_int (σ := sim0 W) Tryd.underlying3 (hval 0 3 v0 rfl rfl)
  obtain ⟨l, a, hl, a1⟩ := row_bool (hval 1 35 v1 rfl rfl) h1
  obtain ⟨ns, b, hn, a2⟩ := row_int (hval 2 22 v2 rfl rfl) h2
  obtain ⟨v, H', hr, rfl⟩ := Tryd.last_runs n l ns a b hl hn
  have hans : Answers Tryd.prog 4 #[v0, v1, v2] W (.bool true) :=
    runs_answers (E := Below W.heap.size W) (fun _ _ h k => h.trans k) (prims_of hL hsh) (Below.refl _ _) hr (.cons a0 (.cons a1 (.cons a2 .nil)))
  refine hans.mono fun e W' h => ?_
  obtain ⟨rfl, hb⟩ := h
  exact ⟨_, rfl, post_true (by kernel_rfl) hb (by kernel_rfl) rfl rfl Tryd.underlying4 hW' rfl⟩

theorem reads (os : Os) {H : Type} (enc : TypeId × Value → H) : ∃ places, DataW.whole enc Tryd.prog ((laidWorld os).forCall (fun _ _ => 0) ⟨#[], #[.int .i64 0, .slice none 0 0, .slice none 0 0], []⟩).memory Tryd.f4.params.toList Rows.configLastSpec.vars false
    #[Value.int .i64 0, .slice none 0 0, .slice none 0 0].toList 8 = some ([.lit (.int .i64 0), .nil, .nil], [], places) :=
  ⟨[], by kernel_rfl⟩

set_option maxRecDepth 100000 in
theorem lifted (os : Os) (started : os.Started) (H : Type) (enc : TypeId × Value → H) (F : Stop.Interp) :
    ReturnsInHanded {} Tryd.checked os 4 .any ((OpenSpec.ofChange Rows.configLastSpec).preRow enc Tryd.prog Tryd.f4 Rows.configLastRow.domain false Rows.configLastRow.laid) (((OpenSpec.ofChange Rows.configLastSpec).at F).post enc Tryd.prog Tryd.f4 false true false false) := by
  obtain ⟨places, hx⟩ := reads os enc
  refine returnsInHanded_of_row (C := Tryd.checked) (s := OpenSpec.ofChange Rows.configLastSpec) own started (by kernel_rfl) Tryd.func4
    (witness_row_atRef (enc := enc) (C := Tryd.checked) false (laidWorld os) #[.int .i64 0, .slice none 0 0, .slice none 0 0] rfl (by kernel_rfl) (by kernel_rfl) (by kernel_rfl)
      (OpenSpec.preRow_of_cond 8 hx (by kernel_rfl) (fun k hk => by cases hk) (by kernel_rfl) (laid_met os _))) ?_
  intro W base args ds gs before hval hW _ _ _ hL hsh _
  exact contract H enc W base args ds gs before hval hW hL hsh

theorem said : Rows.ConfigLastSaid :=
  OpenClaim.holds_of_cond 4 Tryd.f4 rfl rfl rfl rfl rfl rfl rfl ⟨rfl, rfl, rfl, rfl, rfl⟩ rfl rfl rfl rfl rfl (by kernel_rfl) Tryd.func4 (by kernel_rfl)
    (of_decide_eq_true (by kernel_rfl)) (by unfold Func.isWrapper; first | (rw [if_pos (by decide +kernel)]; kernel_rfl) | (rw [if_neg (by decide +kernel)]; exact ⟨rfl, rfl⟩))
    (fun os started H enc _ F => by rw [OpenClaim.pre_eq_preRow]; exact lifted os started H enc F)

theorem plain (f : FuncId) (fn : Func) (hf : Tryd.pinned.checked.prog.funcNamed "corrector/correctorlaw18.ConfigLast" = some f) (hfn : Tryd.pinned.checked.prog.funcs[f]? = some fn) :
    true = Tryd.pinned.checked.prog.looks [] ∧ ∀ (j : Nat) t, fn.params[j]? = some t → Tryd.pinned.checked.prog.wantsStandIn t = false := by
  obtain rfl : f = 4 := Option.some.inj ((show Tryd.prog.funcNamed "corrector/correctorlaw18.ConfigLast" = some 4 by kernel_rfl).symm.trans hf) |>.symm
  obtain rfl : fn = Tryd.f4 := (Option.some.inj (Tryd.func4.symm.trans hfn)).symm
  refine ⟨by kernel_rfl, fun j t ht => ?_⟩
  rw [Tryd.params4] at ht
  have : t = 3 ∨ t = 35 ∨ t = 22 := by simpa using Array.mem_of_getElem? ht
  rcases this with rfl | rfl | rfl <;> (show _ = _; kernel_rfl)
end Go.Proofs.YtedfjabpnmjngaaDoor.last
namespace Go.Proofs.YtedfjabpnmjngaaDoor
open Go
/-- The card. -/
theorem lastCard : Rows.ConfigLastCardSaid :=
  Claim7.holds_tied_plain_at .later [] _ _ _ _ last.said (fun _ h => by cases h) (by kernel_rfl) (fun _ h => by cases h) configLast_row_tie rfl ⟨rfl, rfl⟩ (by kernel_rfl) rfl last.plain (by kernel_rfl)
#print axioms lastCard
end Go.Proofs.YtedfjabpnmjngaaDoor
