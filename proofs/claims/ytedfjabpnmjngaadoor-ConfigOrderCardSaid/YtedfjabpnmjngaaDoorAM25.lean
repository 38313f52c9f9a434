/- More fuel answers the same; so a run that the kernel makes is a run. -/
import Derived.Test.YtedfjabpnmjngaaDoorAM20
set_option linter.unusedSimpArgs false
set_option linter.unusedVariables false
namespace Go.AM
open Go

section
variable (P : Program) (h : Hints) (pr : Prims)

structure Up1 (n : Nat) : Prop where
  exec : ∀ f c a H r, execA P h pr n f c a H = some r → execA P h pr (n + 1) f c a H = some r
  scope : ∀ f c cur a H r, scopeA P h pr n f c cur a H = some r → scopeA P h pr (n + 1) f c cur a H = some r
  ops : ∀ f ops is a H r, opsA P h pr n f ops is a H = some r → opsA P h pr (n + 1) f ops is a H = some r
  step : ∀ f ops i a H r, stepA P h pr n f ops i a H = some r → stepA P h pr (n + 1) f ops i a H = some r
  call : ∀ f args H r, callA P h pr n f args H = some r → callA P h pr (n + 1) f args H = some r
  draw : ∀ f ops a H r, drawA P h pr n f ops a H = some r → drawA P h pr (n + 1) f ops a H = some r
  trace : ∀ f ops is a H r, traceA P h pr n f ops is a H = some r → traceA P h pr (n + 1) f ops is a H = some r

theorem up1 : ∀ n, Up1 P h pr n
  | 0 => by
    constructor <;> intros <;> simp_all [execA, scopeA, opsA, stepA, callA, drawA, traceA]
  | n + 1 => by
    have ih := up1 n
    constructor
    · intro f c a H r hr
      cases c with
      | skip => simpa only [execA] using hr
      | label l => simpa only [execA] using hr
      | exit l => simpa only [execA] using hr
      | goto l => simpa only [execA] using hr
      | ret => simpa only [execA] using hr
      | rangeFunc => simp only [execA, reduceCtorEq] at hr
      | refuse => simp only [execA, reduceCtorEq] at hr
      | seq x y =>
        rw [execA] at hr
        rw [execA]
        cases hx : execA P h pr n f x a H with
        | none => rw [hx] at hr; cases hr
        | some q =>
          rw [hx] at hr
          rw [ih.exec _ _ _ _ _ hx]
          obtain ⟨e, a1, H1⟩ := q
          cases e <;> first | exact ih.exec _ _ _ _ _ hr | exact hr
      | cond c x y =>
        rw [execA] at hr
        rw [execA]
        split at hr
        · exact ih.exec _ _ _ _ _ hr
        · exact ih.exec _ _ _ _ _ hr
        · cases hr
      | block id c =>
        rw [execA] at hr
        rw [execA]
        cases hx : execA P h pr n f c a H with
        | none => rw [hx] at hr; cases hr
        | some q =>
          rw [hx] at hr
          rw [ih.exec _ _ _ _ _ hx]
          exact hr
      | loop c =>
        rw [execA] at hr
        rw [execA]
        cases hx : execA P h pr n f c a H with
        | none => rw [hx] at hr; cases hr
        | some q =>
          rw [hx] at hr
          rw [ih.exec _ _ _ _ _ hx]
          obtain ⟨e, a1, H1⟩ := q
          cases e <;> first | exact ih.exec _ _ _ _ _ hr | exact hr
      | scope c =>
        rw [execA] at hr
        rw [execA]
        exact ih.scope _ _ _ _ _ _ hr
      | region i ops d =>
        cases d with
        | false =>
          rw [execA] at hr
          rw [execA]
          cases hx : opsA P h pr n f ops (List.range ops.size) a H with
          | none => rw [hx] at hr; cases hr
          | some q =>
            rw [hx] at hr
            rw [ih.ops _ _ _ _ _ _ hx]
            exact hr
        | true =>
          rw [execA] at hr
          rw [execA]
          exact ih.draw _ _ _ _ _ hr
    · intro f c cur a H r hr
      rw [scopeA] at hr
      rw [scopeA]
      cases hx : execA P h pr n f cur a H with
      | none => rw [hx] at hr; cases hr
      | some q =>
        rw [hx] at hr
        rw [ih.exec _ _ _ _ _ hx]
        obtain ⟨e, a1, H1⟩ := q
        cases e with
        | goto l =>
          simp only at hr ⊢
          cases hl : findLabel c l with
          | none => rw [hl] at hr; exact hr
          | some rest =>
            rw [hl] at hr
            exact ih.scope _ _ _ _ _ _ hr
        | _ => exact hr
    · intro f ops is a H r hr
      cases is with
      | nil => simpa only [opsA] using hr
      | cons i rest =>
        rw [opsA] at hr
        rw [opsA]
        cases hx : stepA P h pr n f ops i a H with
        | none => rw [hx] at hr; cases hr
        | some q =>
          rw [hx] at hr
          rw [ih.step _ _ _ _ _ _ hx]
          exact ih.ops _ _ _ _ _ _ hr
    · intro f ops i a H r hr
      rw [stepA] at hr
      rw [stepA]
      cases ho : ops[i]? with
      | none => rw [ho] at hr; cases hr
      | some o =>
        rw [ho] at hr
        simp only at hr ⊢
        split at hr
        · rename_i hw
          rw [if_pos hw]
          split at hr
          · rename_i hc
            rw [if_pos hc]
            cases hca : calleeA a o with
            | none => rw [hca] at hr; cases hr
            | some q =>
              obtain ⟨g, args⟩ := q
              rw [hca] at hr
              simp only at hr ⊢
              cases hx : callA P h pr n g args H with
              | none => rw [hx] at hr; cases hr
              | some z =>
                rw [hx] at hr
                rw [ih.call _ _ _ _ hx]
                exact hr
          · rename_i hc
            rw [if_neg hc]
            exact hr
        · rename_i hw
          rw [if_neg hw]
          exact hr
    · intro f args H r hr
      rw [callA] at hr
      rw [callA]
      cases hp : pr f with
      | some p => rw [hp] at hr; exact hr
      | none =>
        rw [hp] at hr
        simp only at hr ⊢
        cases hf : P.funcs[f]? with
        | none => rw [hf] at hr; cases hr
        | some fn =>
          rw [hf] at hr
          simp only at hr ⊢
          cases hb : fn.body with
          | none => rw [hb] at hr; cases hr
          | some c =>
            rw [hb] at hr
            simp only at hr ⊢
            split at hr
            · cases hr
            · rename_i hn
              rw [if_neg hn]
              cases hx : execA P h pr n f c { n := max args.length fn.ntmps, get := fun i => args.getD i (.tuple []) } H with
              | none => rw [hx] at hr; cases hr
              | some q =>
                rw [hx] at hr
                rw [ih.exec _ _ _ _ _ hx]
                exact hr
    · intro f ops a H r hr
      rw [drawA] at hr
      rw [drawA]
      cases hx : traceA P h pr n f ops (List.range ops.size) a H with
      | none => rw [hx] at hr; cases hr
      | some q =>
        rw [hx] at hr
        rw [ih.trace _ _ _ _ _ _ hx]
        exact hr
    · intro f ops is a H r hr
      cases is with
      | nil => simpa only [traceA] using hr
      | cons i rest =>
        rw [traceA] at hr
        rw [traceA]
        cases hx : stepA P h pr n f ops i a H with
        | none => rw [hx] at hr; cases hr
        | some q =>
          obtain ⟨a1, H1⟩ := q
          rw [hx] at hr
          rw [ih.step _ _ _ _ _ _ hx]
          simp only at hr ⊢
          cases hy : traceA P h pr n f ops rest a1 H1 with
          | none => rw [hy] at hr; cases hr
          | some z =>
            rw [hy] at hr
            rw [ih.trace _ _ _ _ _ _ hy]
            exact hr

/-- A run that was made. -/
theorem runs_made {n : Nat} {g : FuncId} {args : List AV} {H : Heap} {v : AV} {H' : Heap} (hr : callA P h pr n g args H = some (v, H')) : Runs P h pr g args H v H' := by
  refine ⟨n, fun m hm => ?_⟩
  obtain ⟨k, rfl⟩ : ∃ k, m = n + k := ⟨m - n, by omega⟩
  clear hm
  induction k with
  | zero => exact hr
  | succ k ih => exact (up1 P h pr (n + k)).call _ _ _ _ ih

def isTrue : Option (AV × Heap) → Bool
  | some (.bool true, _) => true
  | _ => false
theorem runs_true {n : Nat} {g : FuncId} {args : List AV} {H : Heap} (hr : isTrue (callA P h pr n g args H) = true) : ∃ H', Runs P h pr g args H (.bool true) H' := by
  cases hc : callA P h pr n g args H with
  | none => rw [hc] at hr; cases hr
  | some q =>
    obtain ⟨v, H'⟩ := q
    rw [hc] at hr
    cases v with
    | bool b => cases b with
      | true => exact ⟨H', runs_made P h pr hc⟩
      | false => cases hr
    | _ => cases hr
end
end Go.AM
