/- The first state: nothing but what the arguments reach; what each kind of argument is to the abstract machine. -/
import Derived.Test.YtedfjabpnmjngaaDoorAM22
import Derived.WideShapes
set_option linter.unusedSimpArgs false
set_option linter.unusedVariables false
namespace Go.AM
open Go Go.RowKit Go.ChangeShapes Go.WideShapes

def H0 : Heap := ⟨fun _ => .dead, fun _ => none, 0⟩
def sim0 (w : World) : Sim := ⟨fun _ => none, fun _ => none, fun g _ => g < w.heap.size⟩

theorem rep0 {E : World → Prop} {w : World} (hE : E w) : Rep E w.heap.size (sim0 w) w H0 where
  env := hE
  baseLe := Nat.le_refl _
  obj := fun b h => absurd rfl h
  inj := fun b _ _ _ _ h => absurd rfl h
  tip := fun t e h => by cases h
  tipInj := fun t t' g x x' h => by cases h
  tipObj := fun t b g x c h => by cases h
  freshφ := fun b g c h => by cases h
  freshT := fun t g x h => by cases h
  freshG := fun g j h => h
  freshO := fun b _ => rfl
  freshTip := fun t _ => rfl

theorem runs_answers {P : Program} {h : Hints} {pr : Prims} {E : World → Prop} {w : World} (hE : ∀ a b, E a → Below w.heap.size a b → E b) (hpr : PrimsOk P E w.heap.size pr) (hw : E w)
    {f : FuncId} {avs : List AV} {args : Array Value} {H' : Heap} (hr : Runs P h pr f avs H0 (.bool true) H') (hv : VrL (sim0 w) w avs args.toList) : Answers P f args w (.bool true) := by
  obtain ⟨n, hn⟩ := hr
  refine (call_sound hE hpr (hn n (Nat.le_refl _)) (sim0 w) w args (rep0 hw) hv).mono fun e W' h => ?_
  obtain ⟨u, σ', rfl, hu, _, hg⟩ := h
  cases hu
  exact ⟨rfl, hg.below⟩

theorem toS0_vr {σ : Sim} {w : World} {x : AV} {v : Value} (h : toS0 x = some v) : Vr σ w x v ∧ x.one = true := by
  cases x <;> simp only [toS0, Option.some.injEq, reduceCtorEq] at h <;> subst h
  · exact ⟨.bool _, rfl⟩
  · exact ⟨.int _ _, rfl⟩
  · exact ⟨.str _, rfl⟩
  · exact ⟨.nilSlice, rfl⟩
  · exact ⟨.nilPtr, rfl⟩
  · exact ⟨.nilMap, rfl⟩
  · exact ⟨.nilFunc, rfl⟩
  · exact ⟨.nilIface, rfl⟩
theorem toL_vr {σ : Sim} {w : World} : ∀ {xs : List AV} {vs : List Value}, toL xs = some vs → VrL σ w xs vs ∧ oneL xs = true
  | [], vs, h => by
    simp only [toL, Option.some.injEq] at h
    subst h
    exact ⟨.nil, rfl⟩
  | x :: xs, vs, h => by
    simp only [toL] at h
    split at h
    · rename_i v vs' h1 h2
      cases h
      obtain ⟨a, b⟩ := toS0_vr (σ := σ) (w := w) h1
      obtain ⟨c, d⟩ := toL_vr (σ := σ) (w := w) h2
      exact ⟨.cons a c, by simp only [oneL, List.all_cons, b, Bool.true_and]; exact d⟩
    · cases h

section
variable {H : Type} {enc : TypeId × Value → H} {P : Program} {w : World} {r : Reach} {b0 base : Nat} {spare : Nat → Bool} {held : Bool}

theorem arg_int {t : TypeId} {k : IntKind} {v : Value} {σ : Sim} (ht : P.underlying t = some (.int k)) (hv : Value.okWide P w r b0 t v) : ∃ n, Vr σ w (.int k n) v ∧ k.min ≤ n ∧ n ≤ k.max := by
  simp only [Value.okWide, ht, Cell.okWide] at hv
  cases v <;> simp only [Cell.ok, ht] at hv
  obtain ⟨rfl, h1, h2⟩ := hv
  exact ⟨_, .int _ _, h1, h2⟩
theorem arg_bool {t : TypeId} {v : Value} {σ : Sim} (ht : P.underlying t = some .bool) (hv : Value.okWide P w r b0 t v) : ∃ b, Vr σ w (.bool b) v := by
  obtain ⟨b, rfl⟩ := okWide_bool ht hv
  exact ⟨b, .bool b⟩
theorem arg_str {t : TypeId} {v : Value} {σ : Sim} (ht : P.underlying t = some .string) (hv : Value.okWide P w r b0 t v) : ∃ s, Vr σ w (.str s) v ∧ s.size ≤ 9223372036854775807 := by
  obtain ⟨s, rfl⟩ := okWide_string ht hv
  simp only [Value.okWide, ht, Cell.okWide, Cell.ok] at hv
  have : IntKind.i64.max = 9223372036854775807 := rfl
  exact ⟨s, .str s, by omega⟩

/-- A slice whose elements are of one cell each: its cells. -/
theorem arg_row {t e : TypeId} {v : Value} {d : DataW H} {ps : List MemPlace} {α : Type} (av : α → AV) (ok : α → Prop) (ht : P.underlying t = some (.slice e)) (hc : P.cellsOf e = 1)
    (hel : ∀ fuel x y, DataW.trod enc P w base spare held fuel e [x] = some y → ∃ a, toS0 (av a) = some x ∧ ok a)
    (hv : Value.okWide P w r b0 t v) (hd : DataW.Trod enc P w base spare held t v d ps) :
    Vr (sim0 w) w .nilSlice v ∨ ∃ l : List α, Vr (sim0 w) w (.slice .ro 1 (l.map av) l.length) v ∧ (∀ a ∈ l, ok a) ∧ l.length ≤ 9223372036854775807 := by
  obtain ⟨fuel, hf⟩ := hd
  rcases DataW.trod_slice ht hf with ⟨h0, _⟩ | ⟨a, len, cap, elems, rest, n, _, h1, _, hb, hl, hm, hlen, hel2, _, _⟩
  · refine Or.inl ?_
    obtain ⟨a, l, c, rfl⟩ := okWide_slice ht hv
    simp only [Value.cells, List.cons.injEq, Value.slice.injEq, and_true] at h0
    obtain ⟨rfl, rfl, rfl⟩ := h0
    exact .nilSlice
  · refine Or.inr ?_
    obtain ⟨a', l', c', rfl⟩ := okWide_slice ht hv
    simp only [Value.cells, List.cons.injEq, Value.slice.injEq, and_true] at h1
    obtain ⟨rfl, rfl, rfl⟩ := h1
    simp only [Value.okWide, ht, Cell.okWide, Cell.ok, World.has] at hv
    obtain ⟨g, o, sp⟩ := a
    obtain ⟨_, hcap, _, hsp, _⟩ := hv
    simp only at hsp
    subst hsp
    have each : ∀ i, i < l' → ∃ x α, w.cell? ⟨g, o + i, none⟩ = some x ∧ toS0 (av α) = some x ∧ ok α := by
      intro i hi
      have hb2 := hel2 i hi
      obtain ⟨y, hy⟩ : ∃ y, elems[i]? = some y := ⟨_, List.getElem?_eq_getElem (by omega)⟩
      rw [hy, hc, Nat.mul_one, Option.bind_eq_some_iff] at hb2
      obtain ⟨cs', hcs, hy'⟩ := hb2
      have e1 : (⟨g, o, none⟩ : Addr).add i = ⟨g, o + i, none⟩ := by
        unfold Addr.add
        split
        · rename_i h
          subst h
          rfl
        · rfl
      rw [e1] at hcs
      obtain ⟨x, hx, rfl⟩ : ∃ x, w.cell? ⟨g, o + i, none⟩ = some x ∧ cs' = [x] := by
        obtain ⟨_, hl1, hcell⟩ := World.cells?_some hcs
        match cs', hl1 with
        | [x], _ => exact ⟨x, by simpa [Addr.add] using hcell 0 (by omega), rfl⟩
      obtain ⟨α, h1, h2⟩ := hel n x y hy'
      exact ⟨x, α, hx, h1, h2⟩
    -- gather
    have gather : ∀ m, m ≤ l' → ∃ l : List α, ∃ vs : List Value, l.length = m ∧ vs.length = m ∧ toL (l.map av) = some vs ∧ (∀ a ∈ l, ok a) ∧ ∀ j v, vs[j]? = some v → w.cell? ⟨g, o + (l' - m + j), none⟩ = some v := by
      intro m
      induction m with
      | zero => exact fun _ => ⟨[], [], rfl, rfl, rfl, by simp, by simp⟩
      | succ m ih =>
        intro hle
        obtain ⟨l, vs, h1, h2, h3, h4, h5⟩ := ih (by omega)
        obtain ⟨x, α, hx, ha, hok⟩ := each (l' - (m + 1)) (by omega)
        refine ⟨α :: l, x :: vs, by simp [h1], by simp [h2], by simp [toL, ha, h3], ?_, ?_⟩
        · intro a ha'
          rcases List.mem_cons.mp ha' with rfl | h
          · exact hok
          · exact h4 a h
        · intro j v hj
          cases j with
          | zero =>
            simp only [List.getElem?_cons_zero, Option.some.injEq] at hj
            subst hj
            exact hx
          | succ j =>
            simp only [List.getElem?_cons_succ] at hj
            have := h5 j v hj
            rw [show l' - (m + 1) + (j + 1) = l' - m + j by omega]
            exact this
    obtain ⟨l, vs, h1, h2, h3, h4, h5⟩ := gather l' (Nat.le_refl _)
    have h6 := toL_vr (σ := sim0 w) (w := w) h3
    refine ⟨l, ?_, h4, ?_⟩
    · rw [h1]
      refine .slice (by simp [h1]) hl ?_ h6.1 h6.2 trivial
      intro j v hj
      have := h5 j v hj
      rw [Nat.sub_self, Nat.zero_add] at this
      refine ⟨this, ?_⟩
      show g < w.heap.size
      unfold World.cell? at this
      simp only at this
      cases hg : w.heap[g]? with
      | none => rw [hg] at this; cases this
      | some o => exact (Array.getElem?_eq_some_iff.mp hg).1
    · rw [h1]
      unfold maxLen at hm
      omega
end
end Go.AM
