/- '==' of structs and arrays of plain cells. -/
import Derived.Test.YtedfjabpnmjngaaDoorAM21
import Derived.Laws.StructEq
set_option linter.unusedSimpArgs false
set_option linter.unusedVariables false
namespace Go.AM
open Go

theorem pureAt_bind (P : Program) {α β : Type} : ∀ (x : Sem α) (f : α → Sem β), pureAt P (x >>= f) = (pureAt P x).bind fun a => pureAt P (f a) := by
  intro x
  show ∀ f : α → Sem β, pureAt P (x.bind f) = _
  induction x with
  | pure a => intro f; rfl
  | program k ih => intro f; exact ih P f
  | _ => intro f; simp [Sem.bind, pureAt]

theorem pureAt_map (P : Program) {α β : Type} (f : α → β) (x : Sem α) : pureAt P (f <$> x) = (pureAt P x).map f := by
  show pureAt P (x >>= fun a => pure (f a)) = _
  rw [pureAt_bind]
  cases pureAt P x <;> rfl
section
variable {P : Program}
theorem pureAt_pure {α : Type} (a : α) : pureAt P (pure a : Sem α) = some a := rfl
theorem pureAt_und {t : TypeId} {d : TypeDesc} (h : P.underlying t = some d) : pureAt P (Go.underlying t) = some d := by
  simp only [Go.underlying, Go.program, Bind.bind, Sem.bind, pureAt, h]; rfl
theorem pureAt_size {t : TypeId} {n : Nat} (h : sizeOf? P t = some n) : pureAt P (Go.sizeOf t) = some n := by
  unfold sizeOf? at h
  cases hi : P.info? t with
  | none => rw [hi] at h; cases h
  | some i =>
    rw [hi] at h
    simp only [Option.map_some, Option.some.injEq] at h
    simp only [Go.sizeOf, Go.typeInfo, Go.program, Bind.bind, Sem.bind, pureAt, hi, Pure.pure, h]
theorem pureAt_isAgg {t : TypeId} {b : Bool} (h : isAgg? P t = some b) : pureAt P (Go.isAgg t) = some b := by
  unfold isAgg? at h
  cases hu : P.underlying t with
  | none => rw [hu] at h; cases h
  | some d =>
    rw [hu] at h
    unfold Go.isAgg
    rw [pureAt_bind, pureAt_und hu]
    cases d <;> simp only [Option.some.injEq] at h <;> subst h <;> rfl
theorem pureAt_part {t : TypeId} {cs : Array Value} {off : Nat} {v : Value} (ha : isAgg? P t = some false) (hv : cs[off]? = some v) : pureAt P (part t cs off) = some v := by
  unfold part
  rw [pureAt_bind, pureAt_isAgg ha]
  simp only [Option.bind_some, Bool.false_eq_true, if_false, hv]
  rfl
theorem pureAt_parts {t : TypeId} {cs : Array Value} {off n : Nat} (ha : isAgg? P t = some true) (hn : sizeOf? P t = some n) : pureAt P (part t cs off) = some (.agg (cs.extract off (off + n))) := by
  unfold part
  rw [pureAt_bind, pureAt_isAgg ha]
  simp only [Option.bind_some, if_true]
  rw [pureAt_bind, pureAt_size hn]
  rfl

def eqV (P : Program) (d : Nat) (t : TypeId) (x y : Value) : Option Bool := pureAt P (Op.equalIn d t x y)
theorem eqV_int {d : Nat} {t : TypeId} {k k' : IntKind} (a b : Int) (h : P.underlying t = some (.int k')) : eqV P (d + 1) t (.int k a) (.int k b) = some (a == b) := by
  unfold eqV Op.equalIn
  rw [pureAt_bind, pureAt_und h]
  simp only [Option.bind_some, if_true]
  rfl
theorem eqV_bool {d : Nat} {t : TypeId} (a b : Bool) (h : P.underlying t = some .bool) : eqV P (d + 1) t (.bool a) (.bool b) = some (a == b) := by
  unfold eqV Op.equalIn
  rw [pureAt_bind, pureAt_und h]
  rfl
theorem eqV_str {d : Nat} {t : TypeId} (a b : ByteArray) (h : P.underlying t = some .string) : eqV P (d + 1) t (.string a) (.string b) = some (a.data.toList == b.data.toList) := by
  unfold eqV Op.equalIn
  rw [pureAt_bind, pureAt_und h]
  show some (a == b) = _
  rw [beq_toListBytes, bytes_toList, bytes_toList]

/-- Fields, one behind the other. -/
theorem eqF_nil {d : Nat} {xs ys : Array Value} : pureAt P (Op.eqFields d xs ys []) = some true := rfl
theorem eqF_cons {d : Nat} {xs ys : Array Value} {f : Field} {fs : List Field} {a b : Value} {r s : Bool} (hn : (f.name == "_") = false) (ha : pureAt P (part f.type xs f.offset) = some a)
    (hb : pureAt P (part f.type ys f.offset) = some b) (he : eqV P d f.type a b = some r) (hr : pureAt P (Op.eqFields d xs ys fs) = some s) : pureAt P (Op.eqFields d xs ys (f :: fs)) = some (r && s) := by
  have hn' : f.name ≠ "_" := by simpa using hn
  rw [Op.eqFields, if_pos hn', pureAt_bind, ha, Option.bind_some, pureAt_bind, hb, Option.bind_some, pureAt_bind]
  unfold eqV at he
  rw [he, Option.bind_some]
  cases r
  · rfl
  · exact hr
theorem eqV_struct {d : Nat} {t : TypeId} {xs ys : Array Value} {fs : Array Field} {r : Bool} (ht : P.underlying t = some (.struct fs)) (hp : P.stoodInHeld t = false)
    (h : pureAt P (Op.eqFields d xs ys fs.toList) = some r) : eqV P (d + 1) t (.agg xs) (.agg ys) = some r := by
  unfold eqV Op.equalIn
  rw [pureAt_bind, pureAt_und ht, Option.bind_some]
  simp only
  rw [pureAt_bind]
  have hpr : pureAt P program = some P := rfl
  rw [hpr, Option.bind_some, hp]
  simp only [Bool.false_eq_true, if_false]
  rw [← Array.forIn_toList, ← h]
  generalize fs.toList = l
  clear h ht
  rw [pureAt_bind]
  induction l with
  | nil => rfl
  | cons f l ih =>
    rw [List.forIn_cons, Op.eqFields]
    by_cases hn : f.name ≠ "_"
    · simp only [if_pos hn, pureAt_bind]
      cases pureAt P (part f.type xs f.offset) with
      | none => rfl
      | some a =>
        simp only [Option.bind_some]
        cases pureAt P (part f.type ys f.offset) with
        | none => rfl
        | some b =>
          simp only [Option.bind_some]
          cases pureAt P (Op.equalIn d f.type a b) with
          | none => rfl
          | some r =>
            cases r
            · rfl
            · simp only [Option.bind_some, Bool.not_true, Bool.false_eq_true, if_false, pureAt_pure]
              exact ih
    · simp only [if_neg hn, pureAt_bind, pureAt_pure, Option.bind_some]
      exact ih
/-- Elements, one behind the other. -/
theorem eqV_array {d : Nat} {t e : TypeId} {len n : Nat} {xs ys : Array Value} (ht : P.underlying t = some (.array len e)) (hs : sizeOf? P e = some n) (g : Nat → Bool)
    (h : ∀ i, i < len → ∃ a b, pureAt P (part e xs (i * n)) = some a ∧ pureAt P (part e ys (i * n)) = some b ∧ eqV P d e a b = some (g i)) :
    eqV P (d + 1) t (.agg xs) (.agg ys) = some ((List.range len).all g) := by
  unfold eqV Op.equalIn
  rw [pureAt_bind, pureAt_und ht, Option.bind_some]
  simp only
  rw [pureAt_bind, pureAt_size hs, Option.bind_some, pureAt_bind]
  rw [Std.Legacy.Range.forIn_eq_forIn_range']
  simp only [Std.Legacy.Range.size, Nat.sub_zero, Nat.add_sub_cancel, Nat.div_one]
  rw [← List.range_eq_range']
  have key : ∀ l : List Nat, (∀ i ∈ l, i < len) → (pureAt P (forIn l ((none, ()) : Option Bool × PUnit) fun i r => do
        let __do_lift ← part e xs (i * n)
        let __do_lift_1 ← part e ys (i * n)
        let __do_lift ← Op.equalIn d e __do_lift __do_lift_1
        if (!__do_lift) = true then pure (ForInStep.done (some false, ())) else pure (ForInStep.yield (none, ())))).bind (fun r => pureAt P (match r.fst with | some a => pure a | none => pure true)) = some (l.all g) := by
    intro l
    induction l with
    | nil => intro _; rfl
    | cons i l ih =>
      intro hl
      obtain ⟨a, b, ha, hb, he⟩ := h i (hl i (by simp))
      unfold eqV at he
      rw [List.forIn_cons]
      simp only [pureAt_bind, ha, hb, he, Option.bind_some]
      cases hg : g i with
      | false => simp only [List.all_cons, hg, Bool.false_and]; rfl
      | true =>
        simp only [List.all_cons, hg, Bool.true_and, Bool.not_true, Bool.false_eq_true, if_false, pureAt_pure, Option.bind_some]
        exact ih fun j hj => hl j (by simp [hj])
  refine Eq.trans ?_ (key (List.range len) fun i hi => List.mem_range.mp hi)
  congr 1
  funext r
  obtain ⟨x, _⟩ := r
  cases x <;> rfl

theorem binOpA_eql_agg {t : TypeId} {xs ys : List AV} {ox oy : Operand} {us vs : List Value} {r : Bool} (hx : toL xs = some us) (hy : toL ys = some vs) (hg : P.eqGuardType P.depth t = false)
    (he : eqV P 10000 t (.agg us.toArray) (.agg vs.toArray) = some r) : binOpA P .eql t ox oy (.agg xs) (.agg ys) = some (.bool r) := by
  simp only [binOpA, toV, hx, hy, Option.map_some]
  have h1 : pureAt P (eqGuard .eql t ox oy (.agg us.toArray) (.agg vs.toArray)) = some () := by
    simp [eqGuard, Go.program, Bind.bind, Sem.bind, pureAt, hg, Pure.pure]
  have h2 : pureAt P (Go.binOp .eql t (.agg us.toArray) (.agg vs.toArray)) = some (.bool r) := by
    show pureAt P (Value.bool <$> Op.equal t _ _) = _
    rw [pureAt_map]
    unfold eqV at he
    unfold Op.equal Op.maxDepth
    rw [he]; rfl
  rw [h1, h2]; rfl
theorem binOpA_neq_agg {t : TypeId} {xs ys : List AV} {ox oy : Operand} {us vs : List Value} {r : Bool} (hx : toL xs = some us) (hy : toL ys = some vs) (hg : P.eqGuardType P.depth t = false)
    (he : eqV P 10000 t (.agg us.toArray) (.agg vs.toArray) = some r) : binOpA P .neq t ox oy (.agg xs) (.agg ys) = some (.bool (!r)) := by
  simp only [binOpA, toV, hx, hy, Option.map_some]
  have h1 : pureAt P (eqGuard .neq t ox oy (.agg us.toArray) (.agg vs.toArray)) = some () := by
    simp [eqGuard, Go.program, Bind.bind, Sem.bind, pureAt, hg, Pure.pure]
  have h2 : pureAt P (Go.binOp .neq t (.agg us.toArray) (.agg vs.toArray)) = some (.bool (!r)) := by
    show pureAt P ((fun b => Value.bool (!b)) <$> Op.equal t _ _) = _
    rw [pureAt_map]
    unfold eqV at he
    unfold Op.equal Op.maxDepth
    rw [he]; rfl
  rw [h1, h2]; rfl
end
end Go.AM
