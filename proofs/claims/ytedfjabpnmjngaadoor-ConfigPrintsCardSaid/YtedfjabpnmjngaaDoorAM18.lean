/- Regions whose order is open: every order comes to the text's end. -/
import Derived.Test.YtedfjabpnmjngaaDoorAM17
set_option linter.unusedSimpArgs false
set_option linter.unusedVariables false
namespace Go.AM
open Go Go.RowKit

section
variable {P : Program} {E : World → Prop} {base : Nat} {h : Hints} {pr : Prims}

theorem apart_static {ops : Array Oper} (hs : apartA ops = true) : (∀ j o, ops[j]? = some o → (∀ e ∈ o.after, Region.binds .any e = true → e.on < j)) ∧
    (∀ i j oi oj, ops[i]? = some oi → ops[j]? = some oj → i < j → ((beforeA ops).getD j 0).testBit i = true ∨ (¬ (effectful oi = true ∧ effectful oj = true) ∧ oi.apart ops oj = true)) := by
  unfold apartA at hs
  simp only [List.all_eq_true, List.mem_range, Bool.and_eq_true] at hs
  refine ⟨fun j o hj e he hb => ?_, fun i j oi oj hi hj hij => ?_⟩
  · have hlt : j < ops.size := (Array.getElem?_eq_some_iff.1 hj).1
    have hd : ops.getD j default = o := by simp [Array.getD_eq_getD_getElem?, hj]
    have := (hs j hlt).1.1
    rw [hd] at this
    have := Array.all_eq_true_iff_forall_mem.1 this e he
    simpa [hb] using this
  · have hlt : j < ops.size := (Array.getElem?_eq_some_iff.1 hj).1
    have hdi : ops.getD i default = oi := by simp [Array.getD_eq_getD_getElem?, hi]
    have hdj : ops.getD j default = oj := by simp [Array.getD_eq_getD_getElem?, hj]
    have := (hs j hlt).2 i hij
    rw [hdi, hdj] at this
    simp only [Bool.or_eq_true, Bool.and_eq_true, Bool.not_eq_true'] at this
    rcases this with h1 | ⟨h1, h2⟩
    · exact .inl h1
    · exact .inr ⟨fun hh => (by obtain ⟨ha, hb⟩ := hh; rw [ha, hb] at h1; cases h1), h2⟩

theorem filter_set : ∀ (l : List Bool) (i : Nat), l[i]? = some false → ((l.set i true).filter (fun b => !b)).length + 1 ≤ (l.filter (fun b => !b)).length
  | [], i, h => by simp at h
  | b :: l, 0, h => by simp at h; subst h; simp
  | b :: l, i + 1, h => by
    have := filter_set l i (by simpa using h)
    cases b <;> simp <;> omega

theorem oper_apart {ops : Array Oper} {x y : Oper} (h : x.apart ops y = true) : (∀ d, x.dst = some d → d ∉ y.looksAt ops ∧ y.dst ≠ some d) ∧ (∀ d, y.dst = some d → d ∉ x.looksAt ops) := by
  unfold Oper.apart at h
  simp only [Bool.and_eq_true] at h
  refine ⟨fun d hd => ?_, fun d hd => ?_⟩
  · have := h.1
    rw [hd] at this
    simp at this
    exact ⟨by simpa using this.1, this.2⟩
  · have := h.2
    rw [hd] at this
    simpa using this

/-- All that the text's run tells of an open region. -/
structure Run (P : Program) (E : World → Prop) (base : Nat) (h : Hints) (pr : Prims) (f : FuncId) (ops : Array Oper) where
  A : Nat → AAct
  Hs : Nat → Heap
  v : Nat → AV
  m : Nat → Nat
  before : ∀ j o, ops[j]? = some o → (∀ e ∈ o.after, Region.binds .any e = true → e.on < j)
  pair : ∀ i j oi oj, ops[i]? = some oi → ops[j]? = some oj → i < j → ((beforeA ops).getD j 0).testBit i = true ∨ (¬ (effectful oi = true ∧ effectful oj = true) ∧ oi.apart ops oj = true)
  put : ∀ i o, ops[i]? = some o → A (i + 1) = (A i).put o.dst (v i)
  same : ∀ i o a', ops[i]? = some o → Agree ops o (A i) a' → stepA P h pr (m i) f ops i a' (Hs i) = some (a'.put o.dst (v i), Hs (i + 1))
  quiet : ∀ i o, ops[i]? = some o → effectful o = false → Hs (i + 1) = Hs i
  other : ∀ i o j a', ops[i]? = some o → effectful o = false → j ≤ ops.size → Agree ops o (A i) a' →
    (∀ e oe, ops[e]? = some oe → effectful oe = true → ¬ (e < j ∧ ((beforeA ops).getD e 0).testBit i = true) ∧ ¬ (j ≤ e ∧ ((beforeA ops).getD i 0).testBit e = true)) →
    stepA P h pr (m i) f ops i a' (Hs j) = some (a'.put o.dst (v i), Hs j)
  ok : ∀ i a H a' H', stepA P h pr (m i) f ops i a H = some (a', H') → StepOk P E base ops i a H a' H'

section
variable {f : FuncId} {ops : Array Oper} (R : Run P E base h pr f ops)
def Run.dst (_ : Run P E base h pr f ops) (i : Nat) : Option Tmp := (ops[i]?).bind (·.dst)
def Run.eff (_ : Run P E base h pr f ops) (i : Nat) : Bool := ((ops[i]?).map effectful).getD false

theorem Run.A_puts (k : Nat) : k ≤ ops.size → R.A k = puts R.dst R.v (fun _ => true) (R.A 0) k := by
  induction k with
  | zero => intro _; rfl
  | succ k ih =>
    intro hk
    have hlt : k < ops.size := by omega
    have ho : ops[k]? = some ops[k] := by simp [hlt]
    rw [R.put k _ ho, ih (by omega)]
    simp [puts, Run.dst, ho]
theorem Run.const {i : Nat} : ∀ j, j ≤ i → i ≤ ops.size → (∀ e, j ≤ e → e < i → R.eff e = false) → R.Hs i = R.Hs j := by
  induction i with
  | zero => intro j hj _ _; rw [Nat.le_zero.1 hj]
  | succ i ih =>
    intro j hj hi he
    by_cases hji : j = i + 1
    · rw [hji]
    · have hlt : i < ops.size := by omega
      have ho : ops[i]? = some ops[i] := by simp [hlt]
      have h1 := he i (by omega) (by omega)
      rw [R.quiet i _ ho (by simpa [Run.eff, ho] using h1)]
      exact ih j (by omega) (by omega) fun e h1 h2 => he e h1 (by omega)

/-- The state behind the operations that are listed. -/
structure Stand (E : World → Prop) (base : Nat) (σ0 : Sim) (w0 : World) (R : Run P E base h pr f ops) (p : Nat → Bool) (ac : Act) (w : World) : Prop where
  ex : ∃ σ, ActR σ w (puts R.dst R.v p (R.A 0) ops.size) ac ∧ Rep E base σ w (R.Hs (lastE R.eff p ops.size)) ∧ Goes base σ0 w0 σ w
  closed : ∀ j i, p j = true → ((beforeA ops).getD j 0).testBit i = true → p i = true

theorem Stand.agree {p : Nat → Bool} {i : Nat} {o : Oper} (ho : ops[i]? = some o) (hp : p i = false) (hc : ∀ j i, p j = true → ((beforeA ops).getD j 0).testBit i = true → p i = true)
    (hpred : ∀ j, ((beforeA ops).getD i 0).testBit j = true → p j = true) : Agree ops o (R.A i) (puts R.dst R.v p (R.A 0) ops.size) := by
  have hlt : i < ops.size := (Array.getElem?_eq_some_iff.1 ho).1
  refine ⟨by rw [R.A_puts i (by omega), puts_n, puts_n], fun t ht => ?_⟩
  have e1 : (R.A i).get t = (puts R.dst R.v (fun j => decide (j < i)) (R.A 0) ops.size).get t := by
    rw [R.A_puts i (by omega)]
    have cut : ∀ k, i ≤ k → puts R.dst R.v (fun j => decide (j < i)) (R.A 0) k = puts R.dst R.v (fun j => decide (j < i)) (R.A 0) i := by
      intro k
      induction k with
      | zero => intro hk; rw [Nat.le_zero.1 hk]
      | succ k ih =>
        intro hk
        by_cases hki : i = k + 1
        · rw [hki]
        · simp only [puts]
          rw [if_neg (by simp; omega)]
          exact ih (by omega)
    rw [cut _ (by omega)]
    exact puts_get _ _ _ _ _ _ _ fun j hj _ => by simp [hj]
  rw [e1]
  refine puts_get _ _ _ _ _ _ _ fun j hj hd => ?_
  have hoj : ops[j]? = some ops[j] := by simp [hj]
  have hdj : ops[j].dst = some t := by simpa [Run.dst, hoj] using hd
  by_cases hji : j < i
  · simp only [hji, decide_true]
    rcases R.pair j i _ _ hoj ho hji with hb | ⟨_, hap⟩
    · exact (hpred j hb).symm
    · exact absurd ht ((oper_apart hap).1 t hdj).1
  · simp only [hji, decide_false]
    by_cases hij : j = i
    · rw [hij]; exact hp.symm
    · rcases R.pair i j _ _ ho hoj (by omega) with hb | ⟨_, hap⟩
      · cases hpj : p j with
        | false => rfl
        | true => exact absurd (hc j i hpj hb) (by simp [hp])
      · exact absurd ht ((oper_apart hap).2 t hdj)

theorem Stand.step {σ0 : Sim} {w0 : World} {p : Nat → Bool} {ac : Act} {w : World} (S : Stand E base σ0 w0 R p ac w) {i : Nat} {o : Oper} (ho : ops[i]? = some o) (hp : p i = false)
    (hpred : ∀ e ∈ o.after, Region.binds .any e = true → p e.on = true) {Q : Exit → Act → World → Prop} {K : Act → World → Prop}
    (hK : ∀ ac' w', Stand E base σ0 w0 R (fun j => p j || j == i) ac' w' → K ac' w') : wpOp P ops Q i K ac w := by
  have hlt : i < ops.size := (Array.getElem?_eq_some_iff.1 ho).1
  obtain ⟨σ, ha, hr, hg⟩ := S.ex
  have hpred' : ∀ j, ((beforeA ops).getD i 0).testBit j = true → p j = true := fun j hj => by
    obtain ⟨e, he, hb, hc⟩ := before_spec ho hj
    rcases hc with hc | hc
    · rw [← hc]; exact hpred e he hb
    · exact S.closed e.on j (hpred e he hb) hc
  have hagree := Stand.agree R ho hp S.closed hpred'
  have hclosed : ∀ j k, (p j || j == i) = true → ((beforeA ops).getD j 0).testBit k = true → (p k || k == i) = true := fun j k hj hk => by
    simp only [Bool.or_eq_true, beq_iff_eq] at hj ⊢
    rcases hj with hj | hj
    · exact .inl (S.closed j k hj hk)
    · subst hj; exact .inl (hpred' k hk)
  have hadd : puts R.dst R.v (fun j => p j || j == i) (R.A 0) ops.size = (puts R.dst R.v p (R.A 0) ops.size).put o.dst (R.v i) := by
    have := puts_add R.dst R.v p (R.A 0) i hp ops.size hlt (fun j t hij hj hpj hd => by
      have hoj : ops[j]? = some ops[j] := by simp [hj]
      rcases R.pair i j _ _ ho hoj hij with hb | ⟨_, hap⟩
      · exact absurd (S.closed j i hpj hb) (by simp [hp])
      · have : o.dst = some t := by simpa [Run.dst, ho] using hd
        have := ((oper_apart hap).1 t this).2
        simpa [Run.dst, hoj] using this)
    rw [this]
    simp [Run.dst, ho]
  have effE : ∀ e oe, ops[e]? = some oe → (effectful oe = true ↔ R.eff e = true) := fun e oe he => by simp [Run.eff, he]
  cases hef : effectful o with
  | true =>
    have heff : R.eff i = true := by simp [Run.eff, ho, hef]
    -- the effects that are listed are those ahead of it
    have hbef : ∀ e, e < i → R.eff e = true → p e = true := fun e hei hee => by
      have hel : e < ops.size := by omega
      have hoe : ops[e]? = some ops[e] := by simp [hel]
      rcases R.pair e i _ _ hoe ho hei with hb | ⟨hn, _⟩
      · exact hpred' e hb
      · exact absurd ⟨(effE e _ hoe).2 hee, hef⟩ hn
    have hbeh : ∀ e, i < e → e < ops.size → R.eff e = true → p e = false := fun e hei hel hee => by
      have hoe : ops[e]? = some ops[e] := by simp [hel]
      rcases R.pair i e _ _ ho hoe hei with hb | ⟨hn, _⟩
      · cases hpe : p e with
        | false => rfl
        | true => exact absurd (S.closed e i hpe hb) (by simp [hp])
      · exact absurd ⟨hef, (effE e _ hoe).2 hee⟩ hn
    have hle : lastE R.eff p ops.size ≤ i := by
      rcases Nat.lt_or_ge i (lastE R.eff p ops.size) with hl | hl
      · obtain ⟨e, he⟩ : ∃ e, lastE R.eff p ops.size = e + 1 := ⟨lastE R.eff p ops.size - 1, by omega⟩
        obtain ⟨h1, h2, h3⟩ := lastE_spec _ _ _ _ he
        by_cases hie : e = i
        · subst hie; rw [hp] at h3; cases h3
        · rw [hbeh e (by omega) h1 h2] at h3; cases h3
      · exact hl
    have hH : R.Hs i = R.Hs (lastE R.eff p ops.size) := R.const _ hle (by omega) fun e h1 h2 => by
      cases hee : R.eff e with
      | false => rfl
      | true =>
        have := lastE_lt R.eff p ops.size e (by omega) hee (hbef e h2 hee)
        omega
    rw [← hH] at hr
    have hst := R.same i o _ ho hagree
    refine R.ok i _ _ _ _ hst σ w ac Q K hr ha fun σ' w' ac' h1 h2 h3 => hK ac' w' ⟨⟨σ', by rw [hadd]; exact h1, ?_, hg.trans h3⟩, hclosed⟩
    have hl' : lastE R.eff (fun j => p j || j == i) ops.size = i + 1 := by
      have h1 := lastE_lt R.eff (fun j => p j || j == i) ops.size i hlt heff (by simp)
      obtain ⟨e, he⟩ : ∃ e, lastE R.eff (fun j => p j || j == i) ops.size = e + 1 := ⟨lastE R.eff (fun j => p j || j == i) ops.size - 1, by omega⟩
      obtain ⟨h2, h3, h4⟩ := lastE_spec _ _ _ _ he
      by_cases hie : e = i
      · omega
      · have : p e = true := by simpa [hie] using h4
        rw [hbeh e (by omega) h2 h3] at this; cases this
    rw [hl']; exact h2
  | false =>
    have heff : R.eff i = false := by simp [Run.eff, ho, hef]
    have hst := R.other i o (lastE R.eff p ops.size) _ ho hef (lastE_le _ _ _) hagree (fun e oe hoe hee => by
      have hel : e < ops.size := (Array.getElem?_eq_some_iff.1 hoe).1
      have hee' := (effE e oe hoe).1 hee
      refine ⟨fun ⟨hel', hb⟩ => ?_, fun ⟨hel', hb⟩ => ?_⟩
      · -- e is listed: so i is
        obtain ⟨e2, he2⟩ : ∃ e2, lastE R.eff p ops.size = e2 + 1 := ⟨lastE R.eff p ops.size - 1, by omega⟩
        obtain ⟨h1, h2, h3⟩ := lastE_spec _ _ _ _ he2
        have hpe : p e = true := by
          by_cases hee2 : e = e2
          · rw [hee2]; exact h3
          · have hoe2 : ops[e2]? = some ops[e2] := by simp [h1]
            rcases R.pair e e2 _ _ hoe hoe2 (by omega) with hb2 | ⟨hn, _⟩
            · exact S.closed e2 e h3 hb2
            · exact absurd ⟨hee, (effE e2 _ hoe2).2 h2⟩ hn
        exact absurd (S.closed e i hpe hb) (by simp [hp])
      · have := lastE_lt R.eff p ops.size e hel hee' (hpred' e hb)
        omega)
    refine R.ok i _ _ _ _ hst σ w ac Q K hr ha fun σ' w' ac' h1 h2 h3 => hK ac' w' ⟨⟨σ', by rw [hadd]; exact h1, ?_, hg.trans h3⟩, hclosed⟩
    have hl' : ∀ k, lastE R.eff (fun j => p j || j == i) k = lastE R.eff p k := by
      intro k
      induction k with
      | zero => rfl
      | succ k ih =>
        simp only [lastE, ih]
        by_cases hki : k = i
        · subst hki; simp [heff]
        · have : (k == i) = false := by simpa using hki
          simp [this]
    rw [hl']; exact h2

theorem Stand.all {σ0 : Sim} {w0 : World} {Q : Exit → Act → World → Prop} (hQ : ∀ σ' w' ac', ActR σ' w' (R.A ops.size) ac' → Rep E base σ' w' (R.Hs ops.size) → Goes base σ0 w0 σ' w' → Q .normal ac' w') :
    ∀ (fuel : Nat) (listed : Array Bool) (ac : Act) (w : World), listed.size = ops.size → Stand E base σ0 w0 R (fun j => listed.getD j false) ac w → (fuel = 0 → ∀ j, j < ops.size → listed.getD j false = true) →
      (listed.toList.filter (fun b => !b)).length ≤ fuel → wpAny P .any ops Q fuel listed ac w := by
  have done : ∀ (listed : Array Bool) (ac : Act) (w : World), listed.size = ops.size → Stand E base σ0 w0 R (fun j => listed.getD j false) ac w → (∀ j, j < ops.size → listed.getD j false = true) → Q .normal ac w := by
    intro listed ac w hsz S hall
    obtain ⟨σ, ha, hr, hg⟩ := S.ex
    have e1 : puts R.dst R.v (fun j => listed.getD j false) (R.A 0) ops.size = R.A ops.size := by
      rw [R.A_puts _ (Nat.le_refl _)]
      refine AAct.ext' (by rw [puts_n, puts_n]) fun t => puts_get _ _ _ _ _ _ _ fun j hj _ => by simpa using hall j hj
    have e2 : R.Hs ops.size = R.Hs (lastE R.eff (fun j => listed.getD j false) ops.size) := R.const _ (lastE_le _ _ _) (Nat.le_refl _) fun e h1 h2 => by
      cases hee : R.eff e with
      | false => rfl
      | true =>
        have := lastE_lt R.eff (fun j => listed.getD j false) ops.size e h2 hee (hall e h2)
        omega
    rw [e1] at ha
    rw [← e2] at hr
    exact hQ σ w ac ha hr hg
  intro fuel
  induction fuel with
  | zero =>
    intro listed ac w hsz S h0 _
    have hall := h0 rfl
    refine ⟨?_, done listed ac w hsz S hall⟩
    cases hr : Region.ready .any ops listed with
    | nil => rfl
    | cons x xs =>
      have : x ∈ Region.ready .any ops listed := by rw [hr]; simp
      obtain ⟨hun, o, ho, _⟩ := mem_ready.1 this
      have hlt : x < ops.size := (Array.getElem?_eq_some_iff.1 ho).1
      have := hall x hlt
      simp [hsz ▸ hlt] at hun this
      rw [hun] at this; cases this
  | succ fuel ih =>
    intro listed ac w hsz S _ hcount
    refine ⟨fun hr => ?_, fun i hi => ?_⟩
    · -- nothing is ready: all are listed
      refine done listed ac w hsz S ?_
      have key : ∀ n j, j ≤ n → j < ops.size → listed.getD j false = true := by
        intro n
        induction n with
        | zero =>
          intro j hj hlt
          cases hl : listed.getD j false with
          | true => rfl
          | false =>
            have ho : ops[j]? = some ops[j] := by simp [hlt]
            have : j ∈ Region.ready .any ops listed := mem_ready.2 ⟨by simp [hsz ▸ hlt] at hl ⊢; exact hl, _, ho, fun e he hb => by have := R.before j _ ho e he hb; omega⟩
            rw [hr] at this; cases this
        | succ n ihn =>
          intro j hj hlt
          by_cases hjn : j ≤ n
          · exact ihn j hjn hlt
          · cases hl : listed.getD j false with
            | true => rfl
            | false =>
              have ho : ops[j]? = some ops[j] := by simp [hlt]
              have : j ∈ Region.ready .any ops listed := mem_ready.2 ⟨by simp [hsz ▸ hlt] at hl ⊢; exact hl, _, ho, fun e he hb => by have := R.before j _ ho e he hb; exact ihn e.on (by omega) (by omega)⟩
              rw [hr] at this; cases this
      exact fun j hlt => key j j (Nat.le_refl _) hlt
    · obtain ⟨hun, o, ho, hall⟩ := mem_ready.1 hi
      have hlt : i < ops.size := (Array.getElem?_eq_some_iff.1 ho).1
      have hli : i < listed.size := hsz ▸ hlt
      have hpi : listed.getD i false = false := by simp [hli] at hun ⊢; exact hun
      refine S.step R ho hpi hall fun ac' w' S' => ?_
      have hset : ∀ j, (listed.setIfInBounds i true).getD j false = (listed.getD j false || j == i) := fun j => by
        by_cases hji : j = i
        · subst hji; simp [hli]
        · rw [getD_set_ne false (Ne.symm hji)]
          have : (j == i) = false := by simpa using hji
          simp [this]
      have S'' : Stand E base σ0 w0 R (fun j => (listed.setIfInBounds i true).getD j false) ac' w' := by
        have e : (fun j => (listed.setIfInBounds i true).getD j false) = fun j => (listed.getD j false || j == i) := funext hset
        rw [e]; exact S'
      have hcnt : ((listed.setIfInBounds i true).toList.filter (fun b => !b)).length + 1 ≤ (listed.toList.filter (fun b => !b)).length := by
        have hget : listed.toList[i]? = some false := by
          rw [Array.getElem?_toList]
          simp [hli] at hun ⊢; exact hun
        rw [Array.toList_setIfInBounds]
        exact filter_set _ _ hget
      have hsz' : (listed.setIfInBounds i true).size = ops.size := by simpa using hsz
      refine ih _ ac' w' hsz' S'' (fun h0 j hj => ?_) (by omega)
      subst h0
      have hnil : (listed.setIfInBounds i true).toList.filter (fun b => !b) = [] := List.eq_nil_of_length_eq_zero (by omega)
      have hjl : j < (listed.setIfInBounds i true).size := by omega
      rw [List.filter_eq_nil_iff] at hnil
      have := hnil ((listed.setIfInBounds i true)[j]) (Array.mem_toList_iff.2 (Array.getElem_mem hjl))
      rw [Array.getD_eq_getD_getElem?, Array.getElem?_eq_getElem hjl]
      simpa using this
end
end
end Go.AM
