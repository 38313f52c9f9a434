/- Regions that draw their order: the rule for a proof that steps through them in the order of the text. -/
import Derived.Test.YtedfjabpnmjngaaDoorAM21
set_option linter.unusedSimpArgs false
set_option linter.unusedVariables false
namespace Go.AM
open Go

mutual
theorem aeq_refl : ∀ v : AV, aeq v v = true
  | .bool a => by simp [aeq]
  | .int k a => by simp [aeq]
  | .str a => by
    have : (a == a) = true := by
      show (a.data == a.data) = true
      simp
    simp [aeq, this]
  | .slice r k cs n => by simp [aeq, aeqL_refl cs]
  | .nilSlice => rfl
  | .hsl b k o n => by simp [aeq]
  | .ptr b o => by simp [aeq]
  | .nilPtr => rfl
  | .rptr cs => by simp [aeq, aeqL_refl cs]
  | .map b => by simp [aeq]
  | .nilMap => rfl
  | .func f a b => by simp [aeq, aeqL_refl a, aeqL_refl b]
  | .nilFunc => rfl
  | .iface t v => by simp [aeq, aeq_refl v]
  | .nilIface => rfl
  | .agg a => by simp [aeq, aeqL_refl a]
  | .tuple a => by simp [aeq, aeqL_refl a]
  | .iter a => by simp [aeq]
  | .junk => rfl
theorem aeqL_refl : ∀ l : List AV, aeqL l l = true
  | [] => rfl
  | x :: xs => by simp [aeqL, aeq_refl x, aeqL_refl xs]
end

def isMapT (P : Program) (t : TypeId) : Bool := match P.underlying t with
  | some (.map ..) => true
  | _ => false
def readsB (P : Program) (b : Builtin) (ts : Array TypeId) : Bool := match b with
  | .len => ts.toList.any (isMapT P)
  | .max | .min => false
  | _ => true
/-- Whether an operation may read the heap. -/
def readsHeap (P : Program) (o : Oper) : Bool :=
  match o.op with
  | .move _ | .assign _ | .pick .. | .build .. | .nilCheck _ | .binOp .. | .unOp .. | .makeInterface .. | .slice .. | .fieldAddr .. | .field ..
  | .indexAddr .. | .index .. | .typeAssert .. | .extract .. | .buildSlice .. => false
  | .convert s d _ => convKind P s d == some 2
  | .call c => match c.callee with
    | .builtin b => readsB P b c.argTypes
    | _ => true
  | _ => true

/-- Which heaps, but its own, an operation that reads may meet. -/
def pairsA (P : Program) (ops : Array Oper) : List (Nat × Nat) :=
  let bf := beforeA ops
  (List.range ops.size).flatMap fun i =>
    let oi := ops.getD i default
    if effectful oi || !readsHeap P oi then [] else
      ((List.range (ops.size + 1)).filter fun j =>
        !((List.range ops.size).any fun e => effectful (ops.getD e default) &&
          ((e < j && (bf.getD e 0).testBit i) || (j ≤ e && (bf.getD i 0).testBit e)))).map (i, ·)

def quietHints (h : Hints) (f : FuncId) (ops : Array Oper) : Bool :=
  (List.range ops.size).all fun i => let oi := ops.getD i default
    effectful oi || !h.heap f (oi.dst.getD 0) && !h.freeze f (oi.dst.getD 0)

theorem lenA_any {P : Program} {t : TypeId} (hm : isMapT P t = false) (x : AV) (H K : Heap) : lenA P t x H = lenA P t x K := by
  unfold isMapT at hm
  unfold lenA
  cases hu : P.underlying t with
  | none => rfl
  | some d =>
    rw [hu] at hm
    cases d <;> first | (simp at hm; done) | (cases x <;> rfl)
/-- What does not read the heap answers the same at each. -/
theorem opA_any {P : Program} {h : Hints} {f : FuncId} {a : AAct} {o : Oper} (he : effectful o = false) (hr : readsHeap P o = false) (hh : h.heap f (o.dst.getD 0) = false) (hf : h.freeze f (o.dst.getD 0) = false) :
    ∃ X : Option AV, ∀ K, opA P h f a o K = X.map (·, K) := by
  obtain ⟨dst, op, ty, ps, af, gd⟩ := o
  simp only at hh hf
  have mv : ∀ x : Operand, ∃ X : Option AV, ∀ K, ((a.eval x).bind (moveA false K)) = X.map (·, K) := fun x => ⟨a.eval x, fun K => by
    cases a.eval x
    · rfl
    · simp [moveA_false]⟩
  have bnd : ∀ (α : Type) (o : Option α) (q : α → Heap → Option (AV × Heap)), (∀ v, ∃ X : Option AV, ∀ K, q v K = X.map (·, K)) → ∃ X : Option AV, ∀ K, (o.bind fun v => q v K) = X.map (·, K) := by
    intro α o q hq
    cases o with
    | none => exact ⟨none, fun K => rfl⟩
    | some v =>
      obtain ⟨X, hX⟩ := hq v
      exact ⟨X, fun K => by simp [hX]⟩
  cases op with
  | move x => simp only [opA, hf]; exact mv x
  | assign x => simp only [opA, hf]; exact mv x
  | pick c x y => simp only [opA]; exact bnd _ _ _ fun v => ⟨_, fun K => rfl⟩
  | build t parts => simp only [opA]; exact bnd _ _ _ fun v => ⟨_, fun K => rfl⟩
  | nilCheck x => simp only [opA]; exact bnd _ _ _ fun v => ⟨_, fun K => rfl⟩
  | binOp b t x y t' => simp only [opA]; exact bnd _ _ _ fun v => bnd _ _ _ fun u => ⟨_, fun K => rfl⟩
  | unOp b t x => simp only [opA]; exact bnd _ _ _ fun v => ⟨_, fun K => rfl⟩
  | makeInterface t x => simp only [opA]; exact bnd _ _ _ fun v => ⟨_, fun K => rfl⟩
  | slice t x lo hi mx => simp only [opA]; exact bnd _ _ _ fun v => bnd _ _ _ fun v => bnd _ _ _ fun v => bnd _ _ _ fun v => ⟨_, fun K => rfl⟩
  | fieldAddr t x i => simp only [opA]; exact bnd _ _ _ fun v => ⟨_, fun K => rfl⟩
  | field t x i => simp only [opA]; exact bnd _ _ _ fun v => ⟨_, fun K => rfl⟩
  | indexAddr t x i => simp only [opA]; exact bnd _ _ _ fun v => bnd _ _ _ fun u => bnd _ _ _ fun v => ⟨_, fun K => rfl⟩
  | index t x i => simp only [opA]; exact bnd _ _ _ fun v => bnd _ _ _ fun u => bnd _ _ _ fun v => ⟨_, fun K => rfl⟩
  | typeAssert x t u ok => simp only [opA]; exact bnd _ _ _ fun v => ⟨_, fun K => rfl⟩
  | extract x i =>
    simp only [opA]
    refine bnd _ _ _ fun v => ?_
    cases v with
    | tuple vs => exact ⟨_, fun K => rfl⟩
    | _ => exact ⟨none, fun K => rfl⟩
  | buildSlice t n parts =>
    simp only [opA, hh]
    refine bnd _ _ _ fun v => ?_
    simp only [buildSliceA]
    split
    · split
      · split
        · split
          · exact ⟨some (.slice .full _ _ _), fun K => rfl⟩
          · exact ⟨none, fun K => rfl⟩
        · exact ⟨none, fun K => rfl⟩
      · exact ⟨none, fun K => rfl⟩
    · exact ⟨none, fun K => rfl⟩
  | convert s t x =>
    simp only [opA]
    refine bnd _ _ _ fun v => ?_
    simp only [readsHeap, beq_eq_false_iff_ne, ne_eq] at hr
    simp only [convertA]
    split
    · split
      · exact ⟨_, fun K => rfl⟩
      · exact ⟨none, fun K => rfl⟩
    · exact absurd (by assumption) hr
    · split
      · exact ⟨_, fun K => rfl⟩
      · exact ⟨none, fun K => rfl⟩
    · exact ⟨none, fun K => rfl⟩
  | call c =>
    obtain ⟨ca, args, ts⟩ := c
    cases ca with
    | builtin b =>
      simp only [opA]
      refine bnd _ _ _ fun vs => ?_
      simp only [readsHeap] at hr
      cases b <;> simp only [readsB, reduceCtorEq] at hr
      · generalize ts.toList = tl at hr ⊢
        rcases vs with _ | ⟨x, _ | ⟨y, r⟩⟩ <;> rcases tl with _ | ⟨t, _ | ⟨u, q⟩⟩ <;> simp only [builtinA] <;> first
          | exact ⟨none, fun K => rfl⟩
          | (simp only [List.any_cons, List.any_nil, Bool.or_false] at hr
             exact ⟨lenA P t x ⟨fun _ => .dead, fun _ => none, 0⟩, fun K => congrArg (Option.map (fun v => (v, K))) (lenA_any hr x K _)⟩)
      · simp only [builtinA]
        split
        · exact ⟨_, fun K => rfl⟩
        · exact ⟨none, fun K => rfl⟩
      · simp only [builtinA]
        split
        · exact ⟨_, fun K => rfl⟩
        · exact ⟨none, fun K => rfl⟩
    | _ => simp [readsHeap] at hr
  | _ => first | (simp [effectful] at he; done) | (simp [readsHeap] at hr; done)

section
variable (P : Program) (h : Hints) (pr : Prims)

/-- As wpL, with the states ahead of each operation, the last one first. -/
def wpR (f : FuncId) (n : Nat) (all : List Oper) : List Oper → Regs → Heap → List (Regs × Heap) → (Regs → Heap → List (Regs × Heap) → Prop) → Prop
  | [], g, H, hs, k => k g H hs
  | o :: rest, g, H, hs, k =>
    dstOk n o.dst = true ∧
    match o.guard with
    | none => wpD P h pr f n g H o fun g1 H1 => wpR f n all rest g1 H1 ((g, H) :: hs) k
    | some (j, b) => Bd ((dstAt all j).bind fun d => (ev n g (.tmp d)).bind boolOf) (fun c =>
        Gd (c == b) (wpD P h pr f n g H o fun g1 H1 => wpR f n all rest g1 H1 ((g, H) :: hs) k) (wpR f n all rest (putO g o.dst (.tuple [])) H ((g, H) :: hs) k) .mk .mk) .mk

theorem wpR_ok (f : FuncId) (n : Nat) (ops : Array Oper) (k : Regs → Heap → List (Regs × Heap) → Prop) : ∀ (l : List Oper) (is : List Nat), is.map (fun i => ops[i]?) = l.map some →
    ∀ g H hs, wpR P h pr f n ops.toList l g H hs k → ∃ (tr : List (Regs × Heap)) (g' : Regs) (H' : Heap),
      Ev (fun m => traceA P h pr m f ops is ⟨n, g⟩ H) (tr.map (fun p => ((⟨n, p.1⟩ : AAct), p.2)), ⟨n, g'⟩, H') ∧ k g' H' (tr.reverse ++ hs) ∧ tr.length = is.length ∧
      ∀ (q : Nat) (gq : Regs) (Hq : Heap) (i : Nat) (o : Oper), tr[q]? = some (gq, Hq) → is[q]? = some i → ops[i]? = some o → wantA ops ⟨n, gq⟩ o = true → isCall o = false → ∃ v H1, opA P h f ⟨n, gq⟩ o Hq = some (v, H1)
  | [], [], _, g, H, hs, hk => ⟨[], g, H, ⟨1, fun m hle => by
      obtain ⟨m, rfl⟩ : ∃ m', m = m' + 1 := ⟨m - 1, by omega⟩
      simp [traceA]⟩, hk, rfl, fun q _ _ _ _ hq => by simp at hq⟩
  | [], _ :: _, hi, _, _, _, _ => by simp at hi
  | _ :: _, [], hi, _, _, _, _ => by simp at hi
  | o :: l, i :: is, hi, g, H, hs, hk => by
    simp only [List.map_cons, List.cons.injEq] at hi
    obtain ⟨ho, hi⟩ := hi
    have key : ∃ g' H', Ev (fun m => stepA P h pr m f ops i ⟨n, g⟩ H) (⟨n, g'⟩, H') ∧ wpR P h pr f n ops.toList l g' H' ((g, H) :: hs) k := by
      unfold wpR at hk
      obtain ⟨hd, hk⟩ := hk
      cases hg : o.guard with
      | none =>
        rw [hg] at hk
        exact wpD_step P h pr ops i ho hd (by simp [wantA, hg]) hk
      | some jb =>
        obtain ⟨j, b⟩ := jb
        rw [hg] at hk
        obtain ⟨c, hc, hk⟩ := hk
        have hy : yieldedA ops ⟨n, g⟩ j = some c := by
          rw [dstAt_eq] at hc
          unfold yieldedA
          cases hx : (ops[j]?).bind (·.dst) with
          | none => rw [hx] at hc; simp at hc
          | some d =>
            rw [hx] at hc
            simp only [Option.bind_some, ev] at hc
            cases hv : AAct.eval ⟨n, g⟩ (.tmp d) with
            | none => rw [hv] at hc; simp at hc
            | some v =>
              rw [hv] at hc
              simp only [Option.bind_some] at hc
              cases v <;> simp_all [boolOf]
        cases hcb : (c == b) with
        | true =>
          rw [hcb] at hk
          refine wpD_step P h pr ops i ho hd ?_ hk
          simp only [beq_iff_eq] at hcb
          simp [wantA, hg, hy, hcb]
        | false =>
          rw [hcb] at hk
          refine ⟨_, _, ⟨1, fun m hle => ?_⟩, hk⟩
          obtain ⟨m, rfl⟩ : ∃ m', m = m' + 1 := ⟨m - 1, by omega⟩
          have : wantA ops ⟨n, g⟩ o = false := by
            have hne : c ≠ b := by simpa using hcb
            simp [wantA, hg, hy, hne]
          simp [stepA, ho, this, put_eq hd]
    obtain ⟨g1, H1, ⟨m1, h1⟩, hk1⟩ := key
    obtain ⟨tr, g2, H2, ⟨m2, h2⟩, hk2, hlen, hall⟩ := wpR_ok f n ops k l is hi g1 H1 _ hk1
    refine ⟨(g, H) :: tr, g2, H2, ⟨max m1 m2 + 1, fun m hle => ?_⟩, ?_, by simp [hlen], ?_⟩
    · obtain ⟨m, rfl⟩ : ∃ m', m = m' + 1 := ⟨m - 1, by omega⟩
      simp only [traceA, h1 m (by omega), h2 m (by omega), Option.map_some, List.map_cons]
    · simpa using hk2
    · intro q gq Hq i' o' hq hiq ho' hw hc
      cases q with
      | zero =>
        simp only [List.getElem?_cons_zero, Option.some.injEq, Prod.mk.injEq] at hq hiq
        obtain ⟨rfl, rfl⟩ := hq
        subst hiq
        have hs1 := h1 (m1 + 1) (by omega)
        simp only [stepA, ho', hw, hc, if_true, Bool.false_eq_true, if_false] at hs1
        cases hop : opA P h f ⟨n, g⟩ o' H with
        | none => rw [hop] at hs1; cases hs1
        | some r => exact ⟨r.1, r.2, rfl⟩
      | succ q =>
        simp only [List.getElem?_cons_succ] at hq hiq
        exact hall q gq Hq i' o' hq hiq ho' hw hc

/-- Whether an operation is a load that reads the same at both heaps. -/
def loadSame (n : Nat) (g : Regs) (H K : Heap) (o : Option Oper) : Prop :=
  match o with
  | some ⟨_, .load _ x, _, _, _, _⟩ => (∃ cs, ev n g x = some (.rptr cs)) ∨ ∃ b off, ev n g x = some (.ptr b off) ∧ K.objs b = H.objs b
  | _ => False
/-- Or one that is passed by. -/
def skipped (n : Nat) (ops : Array Oper) (g : Regs) (o : Option Oper) : Prop :=
  match o with
  | some ⟨_, _, _, _, _, some (j, b)⟩ => ∃ c, ((dstAt ops.toList j).bind fun d => (ev n g (.tmp d)).bind boolOf) = some c ∧ (c == b) = false
  | _ => False
def meet1 (n : Nat) (ops : Array Oper) (tr : List (Regs × Heap)) (H1 : Heap) (p : Nat × Nat) : Prop :=
  ∃ g H K, tr[p.1]? = some (g, H) ∧ (tr.map (·.2) ++ [H1])[p.2]? = some K ∧ (K = H ∨ loadSame n g H K ops[p.1]? ∨ skipped n ops g ops[p.1]?)

theorem stable_of {f : FuncId} {n : Nat} {ops : Array Oper} {tr : List (Regs × Heap)} {H1 : Heap} (hq : quietHints h f ops = true) (hlen : tr.length = ops.size)
    (hm : ∀ p ∈ pairsA P ops, meet1 n ops tr H1 p)
    (hop : ∀ (q : Nat) (gq : Regs) (Hq : Heap) (o : Oper), tr[q]? = some (gq, Hq) → ops[q]? = some o → wantA ops ⟨n, gq⟩ o = true → isCall o = false → ∃ v H', opA P h f ⟨n, gq⟩ o Hq = some (v, H')) :
    stableA P h f ops (tr.map (fun p => ((⟨n, p.1⟩ : AAct), p.2))) H1 = true := by
  unfold stableA
  simp only [List.all_eq_true, List.mem_range]
  intro i hi
  have hoi : ops[i]? = some (ops.getD i default) := by simp [Array.getD, hi]
  obtain ⟨⟨g, H⟩, hti⟩ : ∃ p, tr[i]? = some p := ⟨_, List.getElem?_eq_getElem (by omega)⟩
  cases he : effectful (ops.getD i default) with
  | true => simp
  | false =>
    have hqi : h.heap f ((ops.getD i default).dst.getD 0) = false ∧ h.freeze f ((ops.getD i default).dst.getD 0) = false := by
      have := List.all_eq_true.mp hq i (List.mem_range.mpr hi)
      simp only [he, Bool.false_or, Bool.and_eq_true, Bool.not_eq_true'] at this
      exact this
    simp only [Bool.false_or, hqi.1, hqi.2, Bool.not_false, Bool.true_and]
    have htm : (tr.map (fun p => ((⟨n, p.1⟩ : AAct), p.2)))[i]? = some (⟨n, g⟩, H) := by rw [List.getElem?_map, hti]; rfl
    rw [htm]
    simp only
    cases hw : wantA ops ⟨n, g⟩ (ops.getD i default) with
    | false => rfl
    | true =>
      have hc : isCall (ops.getD i default) = false := by
        unfold isCall
        unfold effectful at he
        split
        · rename_i heq
          rw [heq] at he
          simp at he
        · rfl
      obtain ⟨v, H', hv⟩ := hop i g H _ hti hoi hw hc
      simp only [Bool.not_true, Bool.false_or, hv, List.all_eq_true, List.mem_range, Bool.or_eq_true]
      intro j hj
      by_cases hex : ((List.range ops.size).any fun e => effectful (ops.getD e default) &&
          ((e < j && ((beforeA ops).getD e 0).testBit i) || (j ≤ e && ((beforeA ops).getD i 0).testBit e))) = true
      · exact Or.inl hex
      · refine Or.inr ?_
        have hmap : (List.map (fun p => p.2) (tr.map (fun p => ((⟨n, p.1⟩ : AAct), p.2))) ++ [H1]) = (tr.map (·.2) ++ [H1]) := by simp
        rw [hmap]
        obtain ⟨Hj, hHj⟩ : ∃ Hj, (tr.map (·.2) ++ [H1])[j]? = some Hj := ⟨_, List.getElem?_eq_getElem (by simp; omega)⟩
        rw [hHj]
        simp only
        suffices hs : ∃ Hj', opA P h f ⟨n, g⟩ (ops.getD i default) Hj = some (v, Hj') by
          obtain ⟨Hj', hs⟩ := hs
          rw [hs]
          exact aeq_refl v
        cases hr : readsHeap P (ops.getD i default) with
        | false =>
          obtain ⟨X, hX⟩ := opA_any (P := P) (a := ⟨n, g⟩) he hr hqi.1 hqi.2
          rw [hX] at hv ⊢
          cases X with
          | none => cases hv
          | some x => cases hv; exact ⟨Hj, rfl⟩
        | true =>
          have hmem : (i, j) ∈ pairsA P ops := by
            unfold pairsA
            simp only [List.mem_flatMap, List.mem_range]
            refine ⟨i, hi, ?_⟩
            simp only [he, hr, Bool.not_true, Bool.or_self, Bool.false_eq_true, if_false, List.mem_map, List.mem_filter, List.mem_range]
            exact ⟨j, ⟨hj, by simpa using hex⟩, rfl⟩
          obtain ⟨g', H'', K, h1, hK, h2⟩ := hm _ hmem
          rw [hti] at h1
          cases h1
          rw [hHj] at hK
          cases hK
          rcases h2 with h2 | h2 | h2
          · cases h2
            exact ⟨H', hv⟩
          rotate_left
          · rw [hoi] at h2
            unfold skipped at h2
            split at h2
            · rename_i j b heq
              have heq2 := Option.some.inj heq
              obtain ⟨c, hc, hcb⟩ := h2
              rw [heq2] at hw
              unfold wantA at hw
              simp only at hw
              have hy : yieldedA ops ⟨n, g⟩ j = some c := by
                rw [dstAt_eq] at hc
                unfold yieldedA
                cases hx : (ops[j]?).bind (·.dst) with
                | none => rw [hx] at hc; simp at hc
                | some d =>
                  rw [hx] at hc
                  simp only [Option.bind_some, ev] at hc
                  cases hv : AAct.eval ⟨n, g⟩ (.tmp d) with
                  | none => rw [hv] at hc; simp at hc
                  | some v =>
                    rw [hv] at hc
                    simp only [Option.bind_some] at hc
                    cases v <;> simp_all [boolOf]
              rw [hy] at hw
              have : c = b := by simpa using hw
              subst this
              simp at hcb
            · exact h2.elim
          · rw [hoi] at h2
            unfold loadSame at h2
            split at h2
            · rename_i t x ty ps af gd heq
              have heq2 := Option.some.inj heq
              rw [heq2] at hv ⊢
              rcases h2 with ⟨cs, hcs⟩ | ⟨b, off, hcs, hb⟩
              · have hcs' : AAct.eval ⟨n, g⟩ x = some (.rptr cs) := hcs
                simp only [opA, hcs', Option.bind_some, loadA] at hv ⊢
                cases hq : takeVar P t cs with
                | none => rw [hq] at hv; cases hv
                | some u => rw [hq] at hv; cases hv; exact ⟨Hj, rfl⟩
              · have hcs' : AAct.eval ⟨n, g⟩ x = some (.ptr b off) := hcs
                simp only [opA, hcs', Option.bind_some, loadA, hb] at hv ⊢
                cases hq : cellsOfObj (H.objs b) with
                | none => rw [hq] at hv; cases hv
                | some cs =>
                  rw [hq] at hv
                  simp only at hv ⊢
                  cases hq2 : takeVar P t (cs.drop off) with
                  | none => rw [hq2] at hv; cases hv
                  | some u => rw [hq2] at hv; cases hv; exact ⟨Hj, rfl⟩
            · exact h2.elim

theorem wpT_draw {f : FuncId} {n i : Nat} {l : List Oper} {g : Regs} {H : Heap} {Q : Post} {ps : List (Nat × Nat)} (hf : P.follows .mixedOrders = true) (ha : apartA ⟨l⟩ = true) (hq : quietHints h f ⟨l⟩ = true)
    (hp : pairsA P ⟨l⟩ = ps) (hw : wpR P h pr f n l l g H [] fun g' H' hs => (∀ p ∈ ps, meet1 n ⟨l⟩ hs.reverse H' p) ∧ Q .normal g' H') :
    wpT P h pr f n (.region i ⟨l⟩ true) g H Q .mk .mk := by
  subst hp
  obtain ⟨tr, g', H', ⟨m0, hm0⟩, ⟨hm, hQ⟩, hlen, hop⟩ := wpR_ok P h pr f n ⟨l⟩ _ l (List.range l.length) (by
    apply List.ext_getElem
    · simp
    · intro i h1 h2
      simp only [List.length_map, List.length_range] at h1
      simp [h1]) g H [] hw
  simp only [List.append_nil, List.reverse_reverse] at hm
  refine ⟨.normal, g', H', Ev_step (m0 + 1) fun m hle => ?_, hQ⟩
  obtain ⟨m, rfl⟩ : ∃ m', m = m' + 1 := ⟨m - 1, by omega⟩
  have hst := stable_of P h hq (by simpa using hlen) hm (fun q gq Hq o h1 h2 h3 h4 => hop q gq Hq q o h1 (by
    have : q < l.length := by
      have := (Array.getElem?_eq_some_iff.mp h2).1
      simpa using this
    simp [this]) h2 h3 h4)
  have h0 := hm0 m (by omega)
  simp only at h0
  simp only [execA, drawA, List.size_toArray, h0, hf, ha, hst, Bool.and_self, if_true]
end

section
variable (P : Program) (h : Hints) (pr : Prims) (f : FuncId) (n : Nat) (g : Regs) (H : Heap) (hs : List (Regs × Heap)) (k : Regs → Heap → List (Regs × Heap) → Prop)
theorem wpR_nil (all : List Oper) : wpR P h pr f n all [] g H hs k = k g H hs := rfl
theorem wpR_cons (all : List Oper) (d : Option Tmp) (op : Op) (ty : TypeId) (ps : String) (af : Array Edge) (rest : List Oper) :
    wpR P h pr f n all (⟨d, op, ty, ps, af, none⟩ :: rest) g H hs k =
      (dstOk n d = true ∧ wpD P h pr f n g H ⟨d, op, ty, ps, af, none⟩ fun g1 H1 => wpR P h pr f n all rest g1 H1 ((g, H) :: hs) k) := rfl
theorem wpR_guard (all : List Oper) (d : Option Tmp) (op : Op) (ty : TypeId) (ps : String) (af : Array Edge) (j : Nat) (b : Bool) (rest : List Oper) :
    wpR P h pr f n all (⟨d, op, ty, ps, af, some (j, b)⟩ :: rest) g H hs k =
      (dstOk n d = true ∧ Bd ((dstAt all j).bind fun d => (ev n g (.tmp d)).bind boolOf) (fun c =>
        Gd (c == b) (wpD P h pr f n g H ⟨d, op, ty, ps, af, some (j, b)⟩ fun g1 H1 => wpR P h pr f n all rest g1 H1 ((g, H) :: hs) k) (wpR P h pr f n all rest (putO g d (.tuple [])) H ((g, H) :: hs) k) .mk .mk) .mk) := rfl
end

/- HEAPS -/
theorem new_next (H : Heap) (c : Cell) : (H.new c).next = H.next + 1 := rfl
theorem new_objs (H : Heap) (c : Cell) (b : Nat) : (H.new c).objs b = if b = H.next then c else H.objs b := rfl
theorem new_tips (H : Heap) (c : Cell) : (H.new c).tips = H.tips := rfl
theorem set_next (H : Heap) (b : Nat) (c : Cell) : (H.set b c).next = H.next := rfl
theorem set_objs (H : Heap) (b : Nat) (c : Cell) (x : Nat) : (H.set b c).objs x = if x = b then c else H.objs x := rfl
theorem set_tips (H : Heap) (b : Nat) (c : Cell) : (H.set b c).tips = H.tips := rfl

/-- What was there is as it was. -/
structure Gr (H H' : Heap) : Prop where
  next : H.next ≤ H'.next
  objs : ∀ b, b < H.next → H'.objs b = H.objs b
  tips : ∀ b, b < H.next → H'.tips b = H.tips b
theorem Gr.refl (H : Heap) : Gr H H := ⟨Nat.le_refl _, fun _ _ => rfl, fun _ _ => rfl⟩
theorem Gr.trans {a b c : Heap} (h : Gr a b) (k : Gr b c) : Gr a c :=
  ⟨Nat.le_trans h.next k.next, fun x hx => (k.objs x (Nat.lt_of_lt_of_le hx h.next)).trans (h.objs x hx), fun x hx => (k.tips x (Nat.lt_of_lt_of_le hx h.next)).trans (h.tips x hx)⟩
theorem Gr.new {H H' : Heap} (h : Gr H H') (c : Cell) : Gr H (H'.new c) :=
  h.trans ⟨by simp [new_next], fun b hb => by rw [new_objs, if_neg (by omega)], fun b hb => rfl⟩
theorem Gr.set {H H' : Heap} (h : Gr H H') {b : Nat} (hb : H.next ≤ b) (c : Cell) : Gr H (H'.set b c) :=
  ⟨h.next, fun x hx => by rw [set_objs, if_neg (by omega)]; exact h.objs x hx, h.tips⟩

section
variable {P : Program} {t : TypeId} {H : Heap} {b off : Nat} {cs : List AV}
theorem loadA_cells (ho : H.objs b = .cells cs) : loadA P t H (.ptr b off) = takeVar P t (cs.drop off) := by
  simp [loadA, ho, cellsOfObj]
theorem setAt_one (v : AV) (h : off < cs.length) : setAt cs off [v] = cs.set off v := by
  unfold setAt
  rw [List.set_eq_take_append_cons_drop, if_pos h]
  simp
theorem setAt_all {vs : List AV} (h : vs.length = cs.length) : setAt cs 0 vs = vs := by
  unfold setAt
  rw [List.take_zero, List.nil_append, Nat.zero_add, h, List.drop_length, List.append_nil]
theorem storeA_one {v : AV} (ho : H.objs b = .cells cs) (hs : sizeOf? P t = some 1) (hv : v.flat = some [v]) (hl : off < cs.length) :
    storeA P t H (.ptr b off) v = some (H.set b (.cells (cs.set off v))) := by
  have : off + 1 ≤ cs.length := hl
  simp [storeA, hv, hs, ho, this, setAt_one v hl]
theorem storeA_agg {vs : List AV} (ho : H.objs b = .cells cs) (hs : sizeOf? P t = some vs.length) (hl : vs.length = cs.length) :
    storeA P t H (.ptr b 0) (.agg vs) = some (H.set b (.cells vs)) := by
  simp [storeA, AV.flat, hs, ho, hl, setAt_all hl]
theorem flat_int (k : IntKind) (x : Int) : (AV.int k x).flat = some [.int k x] := rfl
theorem flat_bool (x : Bool) : (AV.bool x).flat = some [.bool x] := rfl
theorem flat_str (x : ByteArray) : (AV.str x).flat = some [.str x] := rfl
theorem flat_agg (x : List AV) : (AV.agg x).flat = some x := rfl
theorem head_drop {v : AV} (h : cs[off]? = some v) : (cs.drop off).head? = some v := by
  rw [List.head?_drop]; exact h
end
section
variable (P : Program) (h : Hints) (pr : Prims) (f : FuncId) (n : Nat) (g : Regs) (H : Heap) (k : Regs → Heap → Prop) (d : Option Tmp) (ty : TypeId) (ps : String) (af : Array Edge) (gd : Option (Nat × Bool))
theorem wpD_box (t : TypeId) (x : Operand) : wpD P h pr f n g H ⟨d, .box t x, ty, ps, af, gd⟩ k =
    Bd (ev n g x) (fun v => Bd v.flat (fun cs => k (putO g d (.ptr H.next 0)) (H.new (.cells cs))) .mk) .mk := by
  simp only [wpD, isCall, opA, bd_eq, bd_bind, bd_map, ev]
end

theorem Ev_unique {α : Type} {F : Nat → Option α} {r s : α} (h : Ev F r) (k : Ev F s) : r = s := by
  obtain ⟨a, ha⟩ := h
  obtain ⟨b, hb⟩ := k
  exact Option.some.inj ((ha (max a b) (by omega)).symm.trans (hb (max a b) (by omega)))
theorem wpCall_eq {P : Program} {h : Hints} {pr : Prims} {f : FuncId} {args : List AV} {H H' : Heap} {v : AV} (hr : Runs P h pr f args H v H') (K : AV → Heap → Prop) :
    wpCall P h pr f args H K .mk = K v H' := by
  refine propext ⟨fun ⟨v', H'', hr', hk⟩ => ?_, fun hk => ⟨v, H', hr, hk⟩⟩
  have := Ev_unique hr hr'
  simp only [Prod.mk.injEq] at this
  obtain ⟨rfl, rfl⟩ := this
  exact hk
/-- A function that is taken by what it answers. -/
theorem runs_prim {P : Program} {h : Hints} {pr : Prims} {f : FuncId} {p : List AV → Heap → Option (AV × Heap)} (hp : pr f = some p) {args : List AV} {H H' : Heap} {v : AV} (hv : p args H = some (v, H')) :
    Runs P h pr f args H v H' :=
  Ev_step 0 fun m _ => by simp [callA, hp, hv]

section
variable {P : Program} {n : Nat} {g : Regs} {H : Heap}
theorem resA_tmp {t : Nat} (ht : t < n) : resultA P ⟨n, g⟩ H (.tmp t) = some (g t) := by
  simp [resultA, AAct.eval, ht]
theorem resA_cell {c b off : Nat} {t : TypeId} {cs : List AV} {v : AV} (hc : c < n) (hg : g c = .ptr b off) (ho : H.objs b = .cells cs) (hv : takeVar P t (cs.drop off) = some v) :
    resultA P ⟨n, g⟩ H (.cell c t) = some v := by
  simp [resultA, AAct.eval, hc, hg, ho, hv]
theorem resE_1 {r : ResultVar} {v : AV} (h : resultA P ⟨n, g⟩ H r = some v) : resE P [r] n g H = some v := by
  simp [resE, h]
theorem resE_2 {r s : ResultVar} {v u : AV} (h : resultA P ⟨n, g⟩ H r = some v) (k : resultA P ⟨n, g⟩ H s = some u) : resE P [r, s] n g H = some (.tuple [v, u]) := by
  simp [resE, h, k]
theorem Bd_of {α : Type} {o : Option α} {v : α} (h : o = some v) {k : α → Prop} (hk : k v) : Bd o k .mk := ⟨v, h, hk⟩
end

/-- The round is over: what holds at the head holds again, of what is less. -/
def Again {σ : Type} (I : σ → Regs → Heap → Prop) (μ : σ → Nat) (s : σ) (g : Regs) (H : Heap) (_ : Tok I) (_ : Tok μ) (_ : Tok g) (_ : Tok H) : Prop := ∃ s', I s' g H ∧ μ s' < μ s
theorem Again.mk {σ : Type} {I : σ → Regs → Heap → Prop} {μ : σ → Nat} {s : σ} {g : Regs} {H : Heap} (s' : σ) (hI : I s' g H) (hμ : μ s' < μ s) : Again I μ s g H .mk .mk .mk .mk := ⟨s', hI, hμ⟩
theorem wpT_loop {σ : Type} {P : Program} {h : Hints} {pr : Prims} {f : FuncId} {n : Nat} {c : Code} {Q : Post} {g : Regs} {H : Heap} (I : σ → Regs → Heap → Prop) (μ : σ → Nat) (s : σ)
    (h0 : I s g H) (hs : ∀ s g H, I s g H → wpC P h pr f n c g H (fun o g' H' => match o with
      | .normal => Again I μ s g' H' .mk .mk .mk .mk
      | o => Q o g' H')) : wpT P h pr f n (.loop c) g H Q .mk .mk :=
  wpX_loop P h pr f n c Q I μ hs s g H h0

theorem meet_same {n : Nat} {ops : Array Oper} {tr : List (Regs × Heap)} {H1 H : Heap} {g : Regs} {i j : Nat} (h1 : tr[i]? = some (g, H)) (h2 : (tr.map (·.2) ++ [H1])[j]? = some H) : meet1 n ops tr H1 (i, j) :=
  ⟨g, H, H, h1, h2, Or.inl rfl⟩
theorem meet_rptr {n : Nat} {ops : Array Oper} {tr : List (Regs × Heap)} {H1 H K : Heap} {g : Regs} {i j : Nat} {d : Option Tmp} {t : TypeId} {x : Operand} {ty : TypeId} {ps : String} {af : Array Edge} {gd : Option (Nat × Bool)} {cs : List AV}
    (h1 : tr[i]? = some (g, H)) (hK : (tr.map (·.2) ++ [H1])[j]? = some K) (h2 : ops[i]? = some ⟨d, .load t x, ty, ps, af, gd⟩) (h3 : ev n g x = some (.rptr cs)) : meet1 n ops tr H1 (i, j) :=
  ⟨g, H, K, h1, hK, Or.inr (Or.inl (by rw [h2]; exact Or.inl ⟨cs, h3⟩))⟩
theorem meet_ptr {n : Nat} {ops : Array Oper} {tr : List (Regs × Heap)} {H1 H K : Heap} {g : Regs} {i j : Nat} {d : Option Tmp} {t : TypeId} {x : Operand} {ty : TypeId} {ps : String} {af : Array Edge} {gd : Option (Nat × Bool)} {b off : Nat}
    (h1 : tr[i]? = some (g, H)) (hK : (tr.map (·.2) ++ [H1])[j]? = some K) (h2 : ops[i]? = some ⟨d, .load t x, ty, ps, af, gd⟩) (h3 : ev n g x = some (.ptr b off)) (hb : K.objs b = H.objs b) : meet1 n ops tr H1 (i, j) :=
  ⟨g, H, K, h1, hK, Or.inr (Or.inl (by rw [h2]; exact Or.inr ⟨b, off, h3, hb⟩))⟩
theorem meet_skip {n : Nat} {ops : Array Oper} {tr : List (Regs × Heap)} {H1 H K : Heap} {g : Regs} {i j : Nat} {d : Option Tmp} {op : Op} {ty : TypeId} {ps : String} {af : Array Edge} {k : Nat} {b c : Bool}
    (h1 : tr[i]? = some (g, H)) (hK : (tr.map (·.2) ++ [H1])[j]? = some K) (h2 : ops[i]? = some ⟨d, op, ty, ps, af, some (k, b)⟩) (h3 : ((dstAt ops.toList k).bind fun d => (ev n g (.tmp d)).bind boolOf) = some c) (h4 : (c == b) = false) : meet1 n ops tr H1 (i, j) :=
  ⟨g, H, K, h1, hK, Or.inr (Or.inr (by rw [h2]; exact ⟨c, h3, h4⟩))⟩
theorem meet_nil {n : Nat} {ops : Array Oper} {tr : List (Regs × Heap)} {H1 : Heap} : ∀ p ∈ ([] : List (Nat × Nat)), meet1 n ops tr H1 p := fun p hp => by cases hp
theorem meet_cons {n : Nat} {ops : Array Oper} {tr : List (Regs × Heap)} {H1 : Heap} {p : Nat × Nat} {ps : List (Nat × Nat)} (h : meet1 n ops tr H1 p) (hs : ∀ p ∈ ps, meet1 n ops tr H1 p) : ∀ q ∈ p :: ps, meet1 n ops tr H1 q :=
  List.forall_mem_cons.mpr ⟨h, hs⟩

/-- Loads from one object that is the same at every heap of the region. -/
theorem meets_ptr {n : Nat} {ops : Array Oper} {tr : List (Regs × Heap)} {H1 : Heap} {b : Nat} {X : Cell} (hall : ∀ K ∈ tr.map (·.2) ++ [H1], K.objs b = X) {is : List Nat} {ps : List (Nat × Nat)}
    (hps : ps.all (fun p => is.contains p.1 && decide (p.2 < tr.length + 1)) = true)
    (hi : ∀ i ∈ is, ∃ g H d t x ty s af gd off, tr[i]? = some (g, H) ∧ ops[i]? = some ⟨d, .load t x, ty, s, af, gd⟩ ∧ ev n g x = some (.ptr b off)) : ∀ p ∈ ps, meet1 n ops tr H1 p := by
  intro p hp
  have h1 := List.all_eq_true.mp hps p hp
  simp only [Bool.and_eq_true, decide_eq_true_eq, List.contains_iff_mem] at h1
  obtain ⟨g, H, d, t, x, ty, s, af, gd, off, ht, ho, he⟩ := hi p.1 h1.1
  obtain ⟨K, hK⟩ : ∃ K, (tr.map (·.2) ++ [H1])[p.2]? = some K := ⟨_, List.getElem?_eq_getElem (by simp; omega)⟩
  have hH : H ∈ tr.map (·.2) ++ [H1] := List.mem_append_left _ (List.mem_map.mpr ⟨(g, H), List.mem_of_getElem? ht, rfl⟩)
  exact meet_ptr ht hK ho he ((hall K (List.mem_of_getElem? hK)).trans (hall H hH).symm)
end Go.AM
