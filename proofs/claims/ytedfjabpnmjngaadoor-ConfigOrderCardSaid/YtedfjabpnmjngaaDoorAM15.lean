/- Regions whose order is open: the abstract machine's one run stands for them all. -/
import Derived.Test.YtedfjabpnmjngaaDoorAM14
set_option linter.unusedSimpArgs false
set_option linter.unusedVariables false
namespace Go.AM
open Go Go.RowKit

section
variable {P : Program} {E : World → Prop} {base : Nat}

theorem aeqL_eq (n : Nat) (ih : ∀ x y : AV, SizeOf.sizeOf x < n → aeq x y = true → x = y) : ∀ xs ys : List AV, SizeOf.sizeOf xs < n → aeqL xs ys = true → xs = ys
  | [], [], _, _ => rfl
  | x :: xs, y :: ys, h, he => by
    simp only [aeqL, Bool.and_eq_true] at he
    simp only [List.cons.sizeOf_spec] at h
    rw [ih x y (by omega) he.1, aeqL_eq n ih xs ys (by omega) he.2]
  | [], _ :: _, _, he => by simp [aeqL] at he
  | _ :: _, [], _, he => by simp [aeqL] at he
theorem aeq_eq' : ∀ n, ∀ x y : AV, SizeOf.sizeOf x < n → aeq x y = true → x = y := by
  intro n
  induction n with
  | zero => intro x y h; omega
  | succ n ih =>
    intro x y h he
    have L := aeqL_eq n ih
    cases x <;> cases y <;> simp only [aeq, Bool.and_eq_true, beq_iff_eq, Bool.false_eq_true] at he <;> first
      | rfl
      | (subst he; rfl)
      | (obtain ⟨h1, h2⟩ := he; subst h1; subst h2; rfl)
      | (rw [(MapKept.bytes_beq _ _).1 he])
      | (obtain ⟨⟨⟨h1, h2⟩, h3⟩, h4⟩ := he; subst h1; subst h2; subst h3; first | (subst h4; rfl) | (simp only [AV.slice.sizeOf_spec] at h; rw [L _ _ (by omega) h4]))
      | (simp only [AV.rptr.sizeOf_spec] at h; rw [L _ _ (by omega) he])
      | (simp only [AV.agg.sizeOf_spec] at h; rw [L _ _ (by omega) he])
      | (simp only [AV.tuple.sizeOf_spec] at h; rw [L _ _ (by omega) he])
      | (obtain ⟨⟨h1, h2⟩, h3⟩ := he; subst h1; simp only [AV.func.sizeOf_spec] at h; rw [L _ _ (by omega) h2, L _ _ (by omega) h3])
      | (obtain ⟨h1, h2⟩ := he; subst h1; simp only [AV.iface.sizeOf_spec] at h; rw [ih _ _ (by omega) h2])
      | exact he.elim
theorem aeq_eq {x y : AV} (h : aeq x y = true) : x = y := aeq_eq' _ x y (Nat.lt_succ_self _) h

/-- What is no effect leaves the memory alone. -/
theorem opA_pure {h : Hints} {f : FuncId} {a : AAct} {o : Oper} {H : Heap} {v : AV} {H' : Heap} (he : effectful o = false) (h1 : h.heap f (o.dst.getD 0) = false) (h2 : h.freeze f (o.dst.getD 0) = false)
    (hop : opA P h f a o H = some (v, H')) : H' = H := by
  unfold opA at hop
  unfold effectful at he
  cases ho : o.op <;> rw [ho] at hop he <;> simp only at hop he <;> (try (cases hop; done)) <;> (try (cases he; done))
  case move x =>
    obtain ⟨xv, hx, hm⟩ := ex_bind hop
    rw [h2] at hm
    unfold moveA at hm
    split at hm
    · simp at hm; exact hm.2.symm
    · cases hm; rfl
  case assign x =>
    obtain ⟨xv, hx, hm⟩ := ex_bind hop
    rw [h2] at hm
    unfold moveA at hm
    split at hm
    · simp at hm; exact hm.2.symm
    · cases hm; rfl
  case pick c x y => obtain ⟨_, _, hm⟩ := ex_bind hop; obtain ⟨r, hp, he⟩ := ex_map hm; cases he; rfl
  case build t parts => obtain ⟨_, _, hm⟩ := ex_bind hop; obtain ⟨r, hp, he⟩ := ex_map hm; cases he; rfl
  case buildSlice t len parts =>
    obtain ⟨vs, hvs, hm⟩ := ex_bind hop
    rw [h1] at hm
    unfold buildSliceA at hm
    split at hm
    case h_2 => cases hm
    split at hm
    case h_2 => cases hm
    split at hm
    case isFalse => cases hm
    split at hm
    case h_2 => cases hm
    simp at hm; exact hm.2.symm
  case load t x => obtain ⟨_, _, hm⟩ := ex_bind hop; obtain ⟨r, hp, he⟩ := ex_map hm; cases he; rfl
  case nilCheck x => obtain ⟨_, _, hm⟩ := ex_bind hop; obtain ⟨r, hp, he⟩ := ex_map hm; cases he; rfl
  case binOp op t x y yt => obtain ⟨_, _, hm⟩ := ex_bind hop; obtain ⟨_, _, hm⟩ := ex_bind hm; obtain ⟨r, hp, he⟩ := ex_map hm; cases he; rfl
  case unOp op t x => obtain ⟨_, _, hm⟩ := ex_bind hop; obtain ⟨r, hp, he⟩ := ex_map hm; cases he; rfl
  case convert s d x => obtain ⟨_, _, hm⟩ := ex_bind hop; obtain ⟨r, hp, he⟩ := ex_map hm; cases he; rfl
  case makeInterface t x => obtain ⟨_, _, hm⟩ := ex_bind hop; obtain ⟨r, hp, he⟩ := ex_map hm; cases he; rfl
  case makeFunc fn first captured =>
    cases fn <;> simp only at hop <;> (try (cases hop; done))
    obtain ⟨fs, hf, hm⟩ := ex_bind hop
    obtain ⟨cs, hc, he⟩ := ex_map (f := fun cs => AV.func _ fs cs) hm
    cases he; rfl
  case slice t x lo hi mx => obtain ⟨_, _, hm⟩ := ex_bind hop; obtain ⟨_, _, hm⟩ := ex_bind hm; obtain ⟨_, _, hm⟩ := ex_bind hm; obtain ⟨_, _, hm⟩ := ex_bind hm; obtain ⟨r, hp, he⟩ := ex_map hm; cases he; rfl
  case fieldAddr s x fi => obtain ⟨_, _, hm⟩ := ex_bind hop; obtain ⟨r, hp, he⟩ := ex_map hm; cases he; rfl
  case field s x fi => obtain ⟨_, _, hm⟩ := ex_bind hop; obtain ⟨r, hp, he⟩ := ex_map hm; cases he; rfl
  case indexAddr t x ix => obtain ⟨_, _, hm⟩ := ex_bind hop; obtain ⟨_, _, hm⟩ := ex_bind hm; obtain ⟨_, _, hm⟩ := ex_bind hm; obtain ⟨r, hp, he⟩ := ex_map hm; cases he; rfl
  case index t x ix => obtain ⟨_, _, hm⟩ := ex_bind hop; obtain ⟨_, _, hm⟩ := ex_bind hm; obtain ⟨_, _, hm⟩ := ex_bind hm; obtain ⟨r, hp, he⟩ := ex_map hm; cases he; rfl
  case lookup t x ix ok => obtain ⟨_, _, hm⟩ := ex_bind hop; obtain ⟨_, _, hm⟩ := ex_bind hm; obtain ⟨r, hp, he⟩ := ex_map hm; cases he; rfl
  case typeAssert x xt asserted ok => obtain ⟨_, _, hm⟩ := ex_bind hop; obtain ⟨r, hp, he⟩ := ex_map hm; cases he; rfl
  case extract t ix =>
    obtain ⟨_, _, hm⟩ := ex_bind hop
    split at hm
    · obtain ⟨r, hp, he⟩ := ex_map hm; cases he; rfl
    · cases hm
  case call c =>
    obtain ⟨callee, args, argTypes⟩ := c
    cases callee <;> simp only at hop he <;> (try (cases hop; done))
    rename_i b
    obtain ⟨vs, hvs, hm⟩ := ex_bind hop
    unfold builtinA at hm
    split at hm <;> (try simp only at he) <;> (try (cases he; done))
    · obtain ⟨r, hp, he⟩ := ex_map hm; cases he; rfl
    · split at hm
      · obtain ⟨r, hp, he⟩ := ex_map hm; cases he; rfl
      · cases hm
    · split at hm
      · obtain ⟨r, hp, he⟩ := ex_map hm; cases he; rfl
      · cases hm
    · cases hm
end
end Go.AM
