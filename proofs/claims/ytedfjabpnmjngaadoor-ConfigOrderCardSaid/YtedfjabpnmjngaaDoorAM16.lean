/- Regions whose order is open: the abstract machine's one run stands for them all. Second part. -/
import Derived.Test.YtedfjabpnmjngaaDoorAM15
set_option linter.unusedSimpArgs false
set_option linter.unusedVariables false
namespace Go.AM
open Go Go.RowKit

section
variable {P : Program} {E : World → Prop} {base : Nat}

theorem inner_bits (acc : Array Nat) : ∀ (l : List Edge) (s i : Nat), (l.foldl (fun s e => if Region.binds .any e then s ||| 2 ^ e.on ||| acc.getD e.on 0 else s) s).testBit i = true →
    s.testBit i = true ∨ ∃ e ∈ l, Region.binds .any e = true ∧ (e.on = i ∨ (acc.getD e.on 0).testBit i = true)
  | [], s, i, h => .inl h
  | e :: l, s, i, h => by
    simp only [List.foldl_cons] at h
    rcases inner_bits acc l _ i h with h1 | ⟨e', he', h1⟩
    · split at h1
      · rename_i hb
        rw [Nat.testBit_or, Nat.testBit_or, Bool.or_eq_true, Bool.or_eq_true] at h1
        rcases h1 with (h1 | h1) | h1
        · exact .inl h1
        · rw [Nat.testBit_two_pow] at h1
          exact .inr ⟨e, by simp, hb, .inl (by simpa using h1)⟩
        · exact .inr ⟨e, by simp, hb, .inr h1⟩
      · exact .inl h1
    · exact .inr ⟨e', by simp [he'], h1⟩

def beforeStep (acc : Array Nat) (o : Oper) : Array Nat :=
  acc.push (o.after.foldl (fun s e => if Region.binds .any e then s ||| 2 ^ e.on ||| acc.getD e.on 0 else s) 0)
theorem before_list : ∀ (l : List Oper) (acc : Array Nat), (l.foldl beforeStep acc).size = acc.size + l.length ∧ (∀ x, x < acc.size → (l.foldl beforeStep acc).getD x 0 = acc.getD x 0) ∧
    (∀ (j : Nat) (o : Oper) (i : Nat), l[j]? = some o → ((l.foldl beforeStep acc).getD (acc.size + j) 0).testBit i = true →
      ∃ e ∈ o.after, Region.binds .any e = true ∧ (e.on = i ∨ ((l.foldl beforeStep acc).getD e.on 0).testBit i = true))
  | [], acc => ⟨by simp, fun x _ => rfl, fun j o i h => by simp at h⟩
  | o0 :: l, acc => by
    obtain ⟨h1, h2, h3⟩ := before_list l (beforeStep acc o0)
    have hsz : (beforeStep acc o0).size = acc.size + 1 := by simp [beforeStep]
    have hold : ∀ x, x < acc.size → (beforeStep acc o0).getD x 0 = acc.getD x 0 := fun x hx => by
      simp [beforeStep, Array.getD_eq_getD_getElem?, Array.getElem?_push, Nat.ne_of_lt hx]
    refine ⟨by simp only [List.foldl_cons, List.length_cons]; omega, fun x hx => ?_, fun j o i hj hb => ?_⟩
    · simp only [List.foldl_cons]
      rw [h2 x (by omega), hold x hx]
    · simp only [List.foldl_cons] at hb ⊢
      cases j with
      | zero =>
        simp only [List.getElem?_cons_zero, Option.some.injEq] at hj
        subst hj
        rw [Nat.add_zero, h2 acc.size (by omega)] at hb
        have hv : (beforeStep acc o0).getD acc.size 0 = o0.after.foldl (fun s e => if Region.binds .any e then s ||| 2 ^ e.on ||| acc.getD e.on 0 else s) 0 := by
          simp [beforeStep, Array.getD_eq_getD_getElem?]
        rw [hv, ← Array.foldl_toList] at hb
        rcases inner_bits acc _ 0 i hb with h0 | ⟨e, he, hbd, hc⟩
        · simp at h0
        · refine ⟨e, Array.mem_toList_iff.1 he, hbd, ?_⟩
          rcases hc with hc | hc
          · exact .inl hc
          · refine .inr ?_
            have hlt : e.on < acc.size := by
              rcases Nat.lt_or_ge e.on acc.size with hl | hl
              · exact hl
              · rw [Array.getD_eq_getD_getElem?, Array.getElem?_eq_none hl] at hc; simp at hc
            rw [h2 _ (by omega), hold _ hlt]; exact hc
      | succ j =>
        simp only [List.getElem?_cons_succ] at hj
        have := h3 j o i hj (by rw [hsz]; rw [show acc.size + 1 + j = acc.size + (j + 1) by omega]; exact hb)
        exact this

/-- A bit says: by an edge, at once or in turn. -/
theorem before_spec {ops : Array Oper} {j : Nat} {o : Oper} (hj : ops[j]? = some o) {i : Nat} (hb : ((beforeA ops).getD j 0).testBit i = true) :
    ∃ e ∈ o.after, Region.binds .any e = true ∧ (e.on = i ∨ ((beforeA ops).getD e.on 0).testBit i = true) := by
  have hunf : beforeA ops = ops.toList.foldl beforeStep #[] := by
    unfold beforeA; rw [← Array.foldl_toList]; rfl
  rw [hunf] at hb ⊢
  have := (before_list ops.toList #[]).2.2 j o i (by simpa using hj)
  simpa using this (by simpa using hb)

theorem eval_congr {a a' : AAct} {x : Operand} (hn : a.n = a'.n) (h : ∀ t, x = .tmp t → a.get t = a'.get t) : a.eval x = a'.eval x := by
  cases x with
  | tmp t => simp only [AAct.eval]; rw [hn, h t rfl]
  | _ => rfl

theorem mapM_congr' {α β : Type} {f g : α → Option β} : ∀ {l : List α}, (∀ x ∈ l, f x = g x) → l.mapM f = l.mapM g
  | [], _ => by simp
  | x :: l, h => by
    simp only [List.mapM_cons]
    rw [h x (by simp), mapM_congr' fun y hy => h y (by simp [hy])]

theorem parts_congr {a a' : AAct} {parts : Array (Nat × Operand)} (h : ∀ x ∈ (parts.toList.map (·.2)).toArray, a.eval x = a'.eval x) : partsA a parts = partsA a' parts :=
  mapM_congr' fun p hp => by rw [h p.2 (by simp; exact ⟨p.1, by simpa using hp⟩)]
theorem args_congr {a a' : AAct} {args : Array Operand} (h : ∀ x ∈ args, a.eval x = a'.eval x) : argsA a args = argsA a' args :=
  mapM_congr' fun p hp => h p (Array.mem_toList_iff.1 hp)
theorem opt_congr {a a' : AAct} {x : Option Operand} (h : ∀ y ∈ x.toArray, a.eval y = a'.eval y) : optA a x = optA a' x := by
  cases x with
  | none => rfl
  | some y => simp only [optA]; rw [h y (by simp)]

theorem opA_congr {h : Hints} {f : FuncId} {a a' : AAct} {o : Oper} {H : Heap} (he : ∀ x ∈ o.op.operands, a.eval x = a'.eval x) : opA P h f a o H = opA P h f a' o H := by
  unfold opA
  cases ho : o.op <;> simp only <;> rw [ho] at he <;> simp only [Op.operands, Call.operands] at he
  case move x => rw [he x (by simp)]
  case assign x => rw [he x (by simp)]
  case pick c x y => rw [he c (by simp), he x (by simp), he y (by simp)]
  case box t x => rw [he x (by simp)]
  case build t parts => rw [parts_congr he]
  case buildSlice t len parts => rw [parts_congr he]
  case load t x => rw [he x (by simp)]
  case store t x y => rw [he x (by simp), he y (by simp)]
  case nilCheck x => rw [he x (by simp)]
  case binOp op t x y yt => rw [he x (by simp), he y (by simp)]
  case unOp op t x => rw [he x (by simp)]
  case convert s d x => rw [he x (by simp)]
  case makeInterface t x => rw [he x (by simp)]
  case makeFunc fn first captured =>
    cases fn <;> simp only
    rw [args_congr (args := first) fun x hx => he x (by simp [hx]), args_congr (args := captured) fun x hx => he x (by simp [hx])]
  case makeMap t r => cases r <;> rfl
  case makeSlice t l c => rw [he l (by simp), he c (by simp)]
  case slice t x lo hi mx =>
    rw [he x (by simp), opt_congr (x := lo) fun y hy => he y (by simp at hy ⊢; simp [hy]), opt_congr (x := hi) fun y hy => he y (by simp at hy ⊢; simp [hy]), opt_congr (x := mx) fun y hy => he y (by simp at hy ⊢; simp [hy])]
  case fieldAddr s x fi => rw [he x (by simp)]
  case field s x fi => rw [he x (by simp)]
  case indexAddr t x ix => rw [he x (by simp), he ix (by simp)]
  case index t x ix => rw [he x (by simp), he ix (by simp)]
  case lookup t x ix ok => rw [he x (by simp), he ix (by simp)]
  case mapUpdate t m k x => rw [he m (by simp), he k (by simp), he x (by simp)]
  case range t x => rw [he x (by simp)]
  case next it b => cases b <;> simp only; rw [he it (by simp)]
  case typeAssert x xt as ok => rw [he x (by simp)]
  case extract t ix => rw [he t (by simp)]
  case call c =>
    obtain ⟨callee, args, argTypes⟩ := c
    cases callee <;> simp only
    rw [args_congr (args := args) fun x hx => he x (by simp [hx])]

theorem callee_congr {a a' : AAct} {o : Oper} (he : ∀ x ∈ o.op.operands, a.eval x = a'.eval x) : calleeA a o = calleeA a' o := by
  unfold calleeA
  split
  · rename_i x args at_ ho
    rw [ho] at he
    simp only [Op.operands, Call.operands] at he
    rw [he x (by simp), args_congr (args := args) fun y hy => he y (by simp [hy])]
  · rfl
end
end Go.AM
