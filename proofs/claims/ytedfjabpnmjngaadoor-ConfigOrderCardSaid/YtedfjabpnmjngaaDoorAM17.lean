/- Regions whose order is open: the abstract machine's one run stands for them all. The theorem. -/
import Derived.Test.YtedfjabpnmjngaaDoorAM16
set_option linter.unusedSimpArgs false
set_option linter.unusedVariables false
namespace Go.AM
open Go Go.RowKit

section
variable {P : Program} {E : World → Prop} {base : Nat} {h : Hints} {pr : Prims}

structure Agree (ops : Array Oper) (o : Oper) (a a' : AAct) : Prop where
  n : a.n = a'.n
  get : ∀ t ∈ o.looksAt ops, a.get t = a'.get t
theorem Agree.operands {ops : Array Oper} {o : Oper} {a a' : AAct} (hg : Agree ops o a a') : ∀ x ∈ o.op.operands, a.eval x = a'.eval x := fun x hx =>
  eval_congr hg.n fun t ht => hg.get t (by
    subst ht
    unfold Oper.looksAt
    refine List.mem_append.2 (.inl (List.mem_filterMap.2 ⟨_, Array.mem_toList_iff.2 hx, rfl⟩)))
theorem Agree.want {ops : Array Oper} {o : Oper} {a a' : AAct} (hg : Agree ops o a a') : wantA ops a o = wantA ops a' o := by
  unfold wantA
  cases hgd : o.guard with
  | none => rfl
  | some p =>
    obtain ⟨j, b⟩ := p
    simp only
    unfold yieldedA
    cases hd : (ops[j]?).bind (·.dst) with
    | none => rfl
    | some d =>
      simp only
      rw [eval_congr (x := .tmp d) hg.n fun t ht => hg.get t (by
        cases ht
        unfold Oper.looksAt
        rw [hgd]
        simp only [hd]
        exact List.mem_append.2 (.inr (by simp)))]

theorem step_spec {n : Nat} {f : FuncId} {ops : Array Oper} {i : Nat} {a : AAct} {H : Heap} {a1 : AAct} {H1 : Heap} (hs : stepA P h pr n f ops i a H = some (a1, H1)) :
    ∃ o v, ops[i]? = some o ∧ a1 = a.put o.dst v ∧ (∀ a', Agree ops o a a' → stepA P h pr n f ops i a' H = some (a'.put o.dst v, H1)) ∧
      (wantA ops a o = false → H1 = H ∧ ∀ a' H', Agree ops o a a' → stepA P h pr n f ops i a' H' = some (a'.put o.dst v, H')) ∧
      (effectful o = false → h.heap f (o.dst.getD 0) = false → h.freeze f (o.dst.getD 0) = false → H1 = H ∧ ∀ a' H', Agree ops o a a' → (wantA ops a o = true → ∃ H'', opA P h f a o H' = some (v, H'')) → stepA P h pr n f ops i a' H' = some (a'.put o.dst v, H')) ∧
      (wantA ops a o = true → effectful o = false → ∃ H'', opA P h f a o H = some (v, H'')) ∧
      (isAlloc o = true → ∃ t z, o.op = .alloc t ∧ zeroOf P t = some z ∧ v = .ptr H.next 0 ∧ H1 = H.new (.cells z)) := by
  have isal : ∀ {o : Oper}, isAlloc o = true → ∃ t, o.op = .alloc t ∧ o.guard = none := fun {o} ha => by
    unfold isAlloc at ha
    split at ha
    · rename_i t h1 h2; exact ⟨t, h1, h2⟩
    · cases ha
  cases n with
  | zero => simp [stepA] at hs
  | succ n =>
    simp only [stepA] at hs ⊢
    cases ho : ops[i]? with
    | none => rw [ho] at hs; cases hs
    | some o =>
      rw [ho] at hs
      simp only at hs ⊢
      refine ⟨o, ?_⟩
      by_cases hw : wantA ops a o = true
      · rw [if_pos hw] at hs
        by_cases hc : isCall o = true
        · rw [if_pos hc] at hs
          cases hcal : calleeA a o with
          | none => rw [hcal] at hs; cases hs
          | some p =>
            obtain ⟨g, args⟩ := p
            rw [hcal] at hs
            simp only at hs
            cases hca : callA P h pr n g args H with
            | none => rw [hca] at hs; cases hs
            | some q =>
              obtain ⟨v, H2⟩ := q
              rw [hca] at hs
              simp only [Option.map_some, Option.some.injEq, Prod.mk.injEq] at hs
              obtain ⟨rfl, rfl⟩ := hs
              have heff : effectful o = true := by
                unfold isCall at hc
                unfold effectful
                split at hc
                · rename_i hop; rw [hop]
                · cases hc
              refine ⟨v, rfl, rfl, fun a' hg => ?_, fun hn => ?_, fun hn => ?_, fun _ hn => ?_, fun ha => ?_⟩
              · rw [← hg.want, if_pos hw, if_pos hc, ← callee_congr hg.operands, hcal]
                simp only [hca, Option.map_some]
              · rw [hw] at hn; cases hn
              · rw [heff] at hn; cases hn
              · rw [heff] at hn; cases hn
              · obtain ⟨t, h1, _⟩ := isal ha
                unfold isCall at hc
                rw [h1] at hc; cases hc
        · rw [if_neg hc] at hs
          cases hop : opA P h f a o H with
          | none => rw [hop] at hs; cases hs
          | some q =>
            obtain ⟨v, H2⟩ := q
            rw [hop] at hs
            simp only [Option.map_some, Option.some.injEq, Prod.mk.injEq] at hs
            obtain ⟨rfl, rfl⟩ := hs
            refine ⟨v, rfl, rfl, fun a' hg => ?_, fun hn => ?_, fun he h1 h2 => ⟨opA_pure he h1 h2 hop, fun a' H' hg hv => ?_⟩, fun _ _ => ⟨_, rfl⟩, fun ha => ?_⟩
            · rw [← hg.want, if_pos hw, if_neg hc, ← opA_congr hg.operands, hop]; rfl
            · rw [hw] at hn; cases hn
            · obtain ⟨H'', hv'⟩ := hv hw
              have hp := opA_pure he h1 h2 hv'
              subst hp
              rw [← hg.want, if_pos hw, if_neg hc, ← opA_congr hg.operands, hv']; rfl
            · obtain ⟨t, h1, _⟩ := isal ha
              obtain ⟨dst, op, ty, ps, af, gd⟩ := o
              simp only at h1
              subst h1
              simp only [opA] at hop
              cases hz : zeroOf P t with
              | none => rw [hz] at hop; cases hop
              | some z =>
                rw [hz] at hop
                simp only [Option.map_some, Option.some.injEq, Prod.mk.injEq] at hop
                exact ⟨t, z, rfl, hz, hop.1.symm, hop.2.symm⟩
      · rw [if_neg hw] at hs
        simp only [Option.some.injEq, Prod.mk.injEq] at hs
        obtain ⟨rfl, rfl⟩ := hs
        refine ⟨.tuple [], rfl, rfl, fun a' hg => ?_, fun _ => ⟨rfl, fun a' H' hg => ?_⟩, fun _ _ _ => ⟨rfl, fun a' H' hg _ => ?_⟩, fun hw' => absurd hw' hw, fun ha => ?_⟩
        · rw [← hg.want, if_neg hw]
        · rw [← hg.want, if_neg hw]
        · rw [← hg.want, if_neg hw]
        · obtain ⟨t, _, h2⟩ := isal ha
          exact absurd (by unfold wantA; rw [h2]) hw

/-- The text's own run, state by state. -/
structure Text (P : Program) (h : Hints) (pr : Prims) (n : Nat) (f : FuncId) (ops : Array Oper) (A : Nat → AAct) (Hs : Nat → Heap) : Prop where
  step : ∀ i, i < ops.size → ∃ m, m ≤ n ∧ stepA P h pr m f ops i (A i) (Hs i) = some (A (i + 1), Hs (i + 1))

theorem trace_text {f : FuncId} {ops : Array Oper} : ∀ (is : List Nat) (n : Nat) (a : AAct) (H : Heap) (tr : List (AAct × Heap)) (a1 : AAct) (H1 : Heap), traceA P h pr n f ops is a H = some (tr, a1, H1) →
    tr.length = is.length ∧ (tr ++ [(a1, H1)])[0]? = some (a, H) ∧ ∀ j i, is[j]? = some i → ∃ m x y, m ≤ n ∧ (tr ++ [(a1, H1)])[j]? = some x ∧ (tr ++ [(a1, H1)])[j + 1]? = some y ∧ stepA P h pr m f ops i x.1 x.2 = some y
  | [], n, a, H, tr, a1, H1, ht => by
    cases n <;> simp [traceA] at ht
    obtain ⟨rfl, rfl, rfl⟩ := ht
    exact ⟨rfl, rfl, fun j i hj => by simp at hj⟩
  | i :: is, n, a, H, tr, a1, H1, ht => by
    cases n with
    | zero => simp [traceA] at ht
    | succ n =>
      simp only [traceA] at ht
      cases hs : stepA P h pr n f ops i a H with
      | none => rw [hs] at ht; cases ht
      | some p =>
        obtain ⟨a2, H2⟩ := p
        rw [hs] at ht
        simp only at ht
        cases hr : traceA P h pr n f ops is a2 H2 with
        | none => rw [hr] at ht; cases ht
        | some q =>
          obtain ⟨tr', a3, H3⟩ := q
          rw [hr] at ht
          simp only [Option.map_some, Option.some.injEq, Prod.mk.injEq] at ht
          obtain ⟨rfl, rfl, rfl⟩ := ht
          obtain ⟨h1, h2, h3⟩ := trace_text is n a2 H2 tr' a3 H3 hr
          refine ⟨by simp [h1], rfl, fun j i' hj => ?_⟩
          cases j with
          | zero =>
            simp only [List.getElem?_cons_zero, Option.some.injEq] at hj
            subst hj
            exact ⟨n, (a, H), (a2, H2), by omega, rfl, by simpa using h2, hs⟩
          | succ j =>
            obtain ⟨m, x, y, hm, hx, hy, hst⟩ := h3 j i' (by simpa using hj)
            exact ⟨m, x, y, by omega, by simpa using hx, by simpa using hy, hst⟩
end

section
/-- The puts of the operations that are listed, in the text's order. -/
def puts (dst : Nat → Option Tmp) (v : Nat → AV) (p : Nat → Bool) (a : AAct) : Nat → AAct
  | 0 => a
  | k + 1 => if p k then (puts dst v p a k).put (dst k) (v k) else puts dst v p a k

theorem put_n (a : AAct) (d : Option Tmp) (v : AV) : (a.put d v).n = a.n := by
  unfold AAct.put
  split
  · split <;> rfl
  · rfl
theorem put_get (a : AAct) (d : Option Tmp) (v : AV) (t : Tmp) : (a.put d v).get t = if d = some t ∧ t < a.n then v else a.get t := by
  unfold AAct.put
  cases d with
  | none => simp
  | some x =>
    simp only
    by_cases hx : x < a.n
    · rw [if_pos hx]
      by_cases ht : t = x
      · subst ht; simp [hx]
      · simp [ht, Ne.symm ht]
    · rw [if_neg hx]
      by_cases ht : x = t
      · subst ht; simp [hx]
      · simp [ht]
theorem puts_n (dst : Nat → Option Tmp) (v : Nat → AV) (p : Nat → Bool) (a : AAct) : ∀ k, (puts dst v p a k).n = a.n
  | 0 => rfl
  | k + 1 => by
    simp only [puts]
    split
    · rw [put_n, puts_n dst v p a k]
    · exact puts_n dst v p a k
theorem puts_get (dst : Nat → Option Tmp) (v : Nat → AV) (p q : Nat → Bool) (a : AAct) (t : Tmp) : ∀ k, (∀ j, j < k → dst j = some t → p j = q j) → (puts dst v p a k).get t = (puts dst v q a k).get t
  | 0, _ => rfl
  | k + 1, hpq => by
    have ih := puts_get dst v p q a t k fun j hj => hpq j (by omega)
    simp only [puts]
    by_cases hd : dst k = some t
    · have := hpq k (by omega) hd
      rw [this]
      split
      · rw [put_get, put_get, puts_n, puts_n, ih]
      · exact ih
    · have e : ∀ (c : Bool) (x : AAct), (if c = true then x.put (dst k) (v k) else x).get t = x.get t := fun c x => by
        cases c
        · rfl
        · simp only [if_true, put_get, hd, false_and, if_false]
      rw [e, e]; exact ih
theorem puts_get2 (dst : Nat → Option Tmp) (v v' : Nat → AV) (p q : Nat → Bool) (a : AAct) (t : Tmp) : ∀ k, (∀ j, j < k → dst j = some t → p j = q j ∧ (p j = true → v j = v' j)) → (puts dst v p a k).get t = (puts dst v' q a k).get t
  | 0, _ => rfl
  | k + 1, hpq => by
    have ih := puts_get2 dst v v' p q a t k fun j hj => hpq j (by omega)
    simp only [puts]
    by_cases hd : dst k = some t
    · obtain ⟨h1, h2⟩ := hpq k (by omega) hd
      rw [← h1]
      cases hp : p k with
      | true =>
        simp only [if_true]
        rw [put_get, put_get, puts_n, puts_n, ih, h2 hp]
      | false =>
        simp only [Bool.false_eq_true, if_false]
        exact ih
    · have e : ∀ (c : Bool) (x : AAct) (u : AV), (if c = true then x.put (dst k) u else x).get t = x.get t := fun c x u => by
        cases c
        · rfl
        · simp only [if_true, put_get, hd, false_and, if_false]
      rw [e, e]; exact ih
/-- The last one that writes a slot. -/
theorem puts_last (dst : Nat → Option Tmp) (v : Nat → AV) (p : Nat → Bool) (a : AAct) (t : Tmp) (i : Nat) (hi : p i = true) (hd : dst i = some t) (ht : t < a.n) : ∀ k, i < k → (∀ j, i < j → j < k → p j = true → dst j ≠ some t) → (puts dst v p a k).get t = v i
  | 0, h, _ => by omega
  | k + 1, hik, hl => by
    simp only [puts]
    by_cases hk : k = i
    · subst hk
      rw [if_pos hi, put_get, puts_n, if_pos ⟨hd, ht⟩]
    · have ih := puts_last dst v p a t i hi hd ht k (by omega) fun j h1 h2 => hl j h1 (by omega)
      cases hp : p k with
      | false => simpa using ih
      | true =>
        simp only [if_true]
        rw [put_get, if_neg (fun h => hl k (by omega) (by omega) hp h.1)]
        exact ih
theorem AAct.ext' {a b : AAct} (hn : a.n = b.n) (hg : ∀ t, a.get t = b.get t) : a = b := by
  cases a; cases b; simp at hn hg; subst hn; simp; exact funext hg
/-- One more, whose slot none of the listed ones behind it writes. -/
theorem puts_add (dst : Nat → Option Tmp) (v : Nat → AV) (p : Nat → Bool) (a : AAct) (i : Nat) (hi : p i = false) : ∀ k, i < k → (∀ j t, i < j → j < k → p j = true → dst i = some t → dst j ≠ some t) →
    puts dst v (fun j => p j || j == i) a k = (puts dst v p a k).put (dst i) (v i)
  | 0, h, _ => by omega
  | k + 1, hik, hd => by
    simp only [puts]
    by_cases hk : i = k
    · subst hk
      have : puts dst v (fun j => p j || j == i) a i = puts dst v p a i := by
        refine AAct.ext' (by rw [puts_n, puts_n]) fun t => puts_get _ _ _ _ _ _ _ fun j hj _ => by
          have : (j == i) = false := by simp; omega
          simp [this]
      rw [this]; simp [hi]
    · have ih := puts_add dst v p a i hi k (by omega) fun j t h1 h2 => hd j t h1 (by omega)
      have hki : (k == i) = false := by simp; omega
      rw [ih]
      simp only [hki, Bool.or_false]
      cases hp : p k with
      | false => rfl
      | true =>
        simp only [if_true]
        refine AAct.ext' (by simp [put_n]) fun t => ?_
        simp only [put_get, put_n]
        by_cases h1 : dst i = some t
        · have := hd k t (by omega) (by omega) hp h1
          simp [h1, this]
        · simp [h1]

/-- Behind the last effect that is listed. -/
def lastE (eff p : Nat → Bool) : Nat → Nat
  | 0 => 0
  | k + 1 => if eff k && p k then k + 1 else lastE eff p k
theorem lastE_le (eff p : Nat → Bool) : ∀ k, lastE eff p k ≤ k
  | 0 => Nat.le_refl _
  | k + 1 => by
    simp only [lastE]
    split
    · exact Nat.le_refl _
    · exact Nat.le_succ_of_le (lastE_le eff p k)
theorem lastE_spec (eff p : Nat → Bool) : ∀ k e, lastE eff p k = e + 1 → e < k ∧ eff e = true ∧ p e = true
  | 0, e, h => by simp [lastE] at h
  | k + 1, e, h => by
    simp only [lastE] at h
    split at h
    · rename_i hc
      have : k = e := by omega
      subst this
      simp at hc
      exact ⟨by omega, hc.1, hc.2⟩
    · have := lastE_spec eff p k e h
      exact ⟨by omega, this.2⟩
theorem lastE_lt (eff p : Nat → Bool) : ∀ k e, e < k → eff e = true → p e = true → e < lastE eff p k
  | 0, e, h, _, _ => by omega
  | k + 1, e, h, h1, h2 => by
    simp only [lastE]
    split
    · omega
    · rename_i hc
      by_cases hek : e = k
      · subst hek; simp [h1, h2] at hc
      · exact lastE_lt eff p k e (by omega) h1 h2
end
end Go.AM
