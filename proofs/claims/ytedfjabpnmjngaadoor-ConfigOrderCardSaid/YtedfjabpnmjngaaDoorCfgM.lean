/- What Parse reads, of lists of bytes; a config is itself; the known example. -/
import Derived.Test.YtedfjabpnmjngaaDoorCfgT
import Derived.Test.YtedfjabpnmjngaaDoorAM27
set_option linter.unusedSimpArgs false
set_option linter.unusedVariables false
namespace Go.Proofs.Tryd
open Go Go.AM

/-- A line, read. -/
def lineL (c : Cfg) (t : List UInt8) : Option Cfg := lineN c ((wordsGo [] t).map tx)
def readL (c : Cfg) : List (List UInt8) → Option Cfg
  | [] => some c
  | t :: r => match lineL c t with
    | some c' => readL c' r
    | none => none
theorem fields_tx (t : ByteArray) : Lib.goFieldsP blank t = (wordsGo [] t.data.toList).map tx := by
  rw [← fields_words, List.map_map]
  have : (tx ∘ fun x : ByteArray => x.data.toList) = id := by
    funext x; rfl
  rw [this, List.map_id]
theorem readLines_map (c : Cfg) (ts : List ByteArray) : readLines c ts = readL c (ts.map (·.data.toList)) := by
  induction ts generalizing c with
  | nil => rfl
  | cons t r ih =>
    rw [List.map_cons, readLines, readL, lineL, ← fields_tx]
    cases lineN c (Lib.goFieldsP blank t) with
    | none => rfl
    | some c' => exact ih c'
theorem readLines_eq (c : Cfg) (s : ByteArray) : readLines c (linesB s) = readL c (linesL s.data.toList) := by
  rw [readLines_map, lines_eq]
theorem readL_line {c c' : Cfg} {x r : List UInt8} (h : ∀ b ∈ x, b ≠ 10) (hl : lineL c x = some c') : readL c (linesL (x ++ 10 :: r)) = readL c' (linesL r) := by
  rw [linesL_cons x r h, readL, hl]
theorem lineL_nil (c : Cfg) : lineL c [] = some c := rfl
theorem readL_nil (c : Cfg) : readL c (linesL []) = some c := rfl
theorem parseN_ok {l : List UInt8} {c : Cfg} (hl : l.length ≤ 2000) (hr : readL plainCfg (linesL l) = some c) (hc : okCfg c = true) : parseN (tx l) = (c, 0) := by
  unfold parseN
  rw [if_neg (by rw [tx_size]; omega), readLines_eq, tx_data, hr]
  simp [hc]

/-- A config is itself. -/
theorem und26 : Tryd.prog.underlying 26 = some (.array 10 4) := by kernel_rfl
def cfgVals (c : Cfg) : List Value := c.on.map .bool ++ [.int .i64 c.w, .int .i64 c.st, .int .i64 c.em, .int .i64 c.de]
theorem toL_append {a b : List AV} {u v : List Value} (h : toL a = some u) (k : toL b = some v) : toL (a ++ b) = some (u ++ v) := by
  induction a generalizing u with
  | nil => cases h; exact k
  | cons x r ih =>
    simp only [toL] at h
    split at h
    · rename_i p q h1 h2
      cases h
      simp only [List.cons_append, toL, h1, ih h2]
    · cases h
theorem toL_bools (l : List Bool) : toL (l.map AV.bool) = some (l.map Value.bool) := by
  induction l with
  | nil => rfl
  | cons b r ih => simp only [List.map_cons, toL, toS0, ih]
theorem toL_cfg (c : Cfg) : toL c.cells = some (cfgVals c) := toL_append (toL_bools _) rfl
theorem eqV28 (c : Cfg) (hc : c.on.length = 10) : eqV Tryd.prog 10000 28 (.agg (cfgVals c).toArray) (.agg (cfgVals c).toArray) = some true := by
  have ag26 : isAgg? Tryd.prog 26 = some true := by kernel_rfl
  have sz26 : sizeOf? Tryd.prog 26 = some 10 := by kernel_rfl
  have lb : (c.on.map Value.bool).length = 10 := by simp [hc]
  have iat : ∀ (k : Nat) (x : Int), [Value.int .i64 c.w, .int .i64 c.st, .int .i64 c.em, .int .i64 c.de][k]? = some (.int .i64 x) → pureAt Tryd.prog (part 3 (cfgVals c).toArray (10 + k)) = some (.int .i64 x) := by
    intro k x hk
    refine pureAt_part ag3 ?_
    rw [List.getElem?_toArray]
    unfold cfgVals
    rw [List.getElem?_append_right (by omega), lb, Nat.add_sub_cancel_left]
    exact hk
  have bb : ∀ b : Bool, (b == b) = true := fun b => by cases b <;> rfl
  have hex : ((cfgVals c).toArray.extract 0 (0 + 10)) = (c.on.map Value.bool).toArray := by
    unfold cfgVals
    rw [List.extract_toArray]
    refine congrArg List.toArray ?_
    rw [List.extract_eq_take_drop]
    simp only [List.drop_zero, Nat.zero_add, Nat.sub_zero]
    rw [List.take_append_of_le_length (by omega), List.take_of_length_le (by omega)]
  refine eqV_struct Tryd.underlying28 (by kernel_rfl) ?_
  have h26 : eqV Tryd.prog 9999 26 (.agg (c.on.map Value.bool).toArray) (.agg (c.on.map Value.bool).toArray) = some true := by
    have := eqV_array (P := Tryd.prog) (d := 9998) (xs := (c.on.map Value.bool).toArray) (ys := (c.on.map Value.bool).toArray) und26 sz4 (fun _ => true) (fun i hi => by
      obtain ⟨b, hb⟩ : ∃ b, c.on[i]? = some b := ⟨_, List.getElem?_eq_getElem (by omega)⟩
      have hp : pureAt Tryd.prog (part 4 (c.on.map Value.bool).toArray (i * 1)) = some (.bool b) := pureAt_part ag4 (by rw [List.getElem?_toArray, List.getElem?_map, Nat.mul_one, hb]; rfl)
      refine ⟨_, _, hp, hp, ?_⟩
      rw [eqV_bool b b und4, bb])
    rw [this]
    rfl
  have h1 := eqF_cons (P := Tryd.prog) (d := 9999) (f := ⟨"On", 26, 0, false, "", "", 0⟩) rfl (by rw [← hex]; exact pureAt_parts ag26 sz26) (by rw [← hex]; exact pureAt_parts ag26 sz26) h26
    (eqF_cons (f := ⟨"Width", 3, 10, false, "", "", 16⟩) rfl (iat 0 c.w rfl) (iat 0 c.w rfl) (eqV_int _ _ und3)
    (eqF_cons (f := ⟨"Step", 3, 11, false, "", "", 24⟩) rfl (iat 1 c.st rfl) (iat 1 c.st rfl) (eqV_int _ _ und3)
    (eqF_cons (f := ⟨"Empty", 3, 12, false, "", "", 32⟩) rfl (iat 2 c.em rfl) (iat 2 c.em rfl) (eqV_int _ _ und3)
    (eqF_cons (f := ⟨"Depth", 3, 13, false, "", "", 40⟩) rfl (iat 3 c.de rfl) (iat 3 c.de rfl) (eqV_int _ _ und3) eqF_nil))))
  simp only [beq_self_eq_true, Bool.and_self] at h1
  exact h1
theorem eq28 (ox oy : Operand) (c : Cfg) (hc : c.on.length = 10) : binOpA Tryd.prog .eql 28 ox oy (.agg c.cells) (.agg c.cells) = some (.bool true) :=
  binOpA_eql_agg (toL_cfg c) (toL_cfg c) (by kernel_rfl) (eqV28 c hc)
theorem ne28 (ox oy : Operand) (c : Cfg) (hc : c.on.length = 10) : binOpA Tryd.prog .neq 28 ox oy (.agg c.cells) (.agg c.cells) = some (.bool false) :=
  binOpA_neq_agg (toL_cfg c) (toL_cfg c) (by kernel_rfl) (eqV28 c hc)

theorem known_runs : ∃ H', Runs Tryd.prog noHints prims 7 [] H0 (.bool true) H' := runs_true (n := 60) _ _ _ (by kernel_rfl)
theorem und35 : Tryd.prog.underlying 35 = some (.slice 4) := by kernel_rfl
theorem und22 : Tryd.prog.underlying 22 = some (.slice 3) := by kernel_rfl
end Go.Proofs.Tryd
