/- The abstract machine's runs, held against the kit's: the theorem. -/
import Derived.Test.YtedfjabpnmjngaaDoorAM18
set_option linter.unusedSimpArgs false
set_option linter.unusedVariables false
namespace Go.AM
open Go Go.RowKit

section
variable {P : Program} {E : World → Prop} {base : Nat} {h : Hints} {pr : Prims}

theorem stable_spec {f : FuncId} {ops : Array Oper} {tr : List (AAct × Heap)} {H1 : Heap} (hs : stableA P h f ops tr H1 = true) {i : Nat} {o : Oper} (ho : ops[i]? = some o) (he : effectful o = false) :
    h.heap f (o.dst.getD 0) = false ∧ h.freeze f (o.dst.getD 0) = false ∧ ∀ a H, tr[i]? = some (a, H) → wantA ops a o = true → ∃ v H2, opA P h f a o H = some (v, H2) ∧
      ∀ j, j ≤ ops.size → (∀ e oe, ops[e]? = some oe → effectful oe = true → ¬ (e < j ∧ ((beforeA ops).getD e 0).testBit i = true) ∧ ¬ (j ≤ e ∧ ((beforeA ops).getD i 0).testBit e = true)) →
        ∃ Hj H3, (tr.map (·.2) ++ [H1])[j]? = some Hj ∧ opA P h f a o Hj = some (v, H3) := by
  have hlt : i < ops.size := (Array.getElem?_eq_some_iff.1 ho).1
  have hd : ops.getD i default = o := by simp [Array.getD_eq_getD_getElem?, ho]
  unfold stableA at hs
  simp only [List.all_eq_true, List.mem_range] at hs
  have h1 := hs i hlt
  rw [hd, he] at h1
  simp only [Bool.false_or, Bool.and_eq_true, Bool.not_eq_true'] at h1
  refine ⟨h1.1.1, h1.1.2, fun a H hti hw => ?_⟩
  have h2 := h1.2
  rw [hti] at h2
  simp only [hw, Bool.not_true, Bool.false_or] at h2
  cases hop : opA P h f a o H with
  | none => rw [hop] at h2; cases h2
  | some q =>
    obtain ⟨v, H2⟩ := q
    rw [hop] at h2
    simp only [List.all_eq_true, List.mem_range] at h2
    refine ⟨v, H2, rfl, fun j hj hc => ?_⟩
    have h3 := h2 j (by omega)
    simp only [Bool.or_eq_true] at h3
    rcases h3 with h3 | h3
    · rw [List.any_eq_true] at h3
      obtain ⟨e, hem, h4⟩ := h3
      have hel : e < ops.size := by simpa using hem
      have hoe : ops[e]? = some ops[e] := by simp [hel]
      have hde : ops.getD e default = ops[e] := by simp [Array.getD_eq_getD_getElem?, hoe]
      rw [hde] at h4
      simp only [Bool.and_eq_true, Bool.or_eq_true, decide_eq_true_eq] at h4
      have := hc e _ hoe h4.1
      rcases h4.2 with h5 | h5
      · exact absurd h5 this.1
      · exact absurd h5 this.2
    · cases hj2 : (tr.map (·.2) ++ [H1])[j]? with
      | none => rw [hj2] at h3; cases h3
      | some Hj =>
        rw [hj2] at h3
        simp only at h3
        cases hop2 : opA P h f a o Hj with
        | none => rw [hop2] at h3; cases h3
        | some q =>
          obtain ⟨v', H3⟩ := q
          rw [hop2] at h3
          have := aeq_eq h3
          subst this
          exact ⟨Hj, H3, rfl, hop2⟩

theorem draw_ok (hE : ∀ w w', E w → Below base w w' → E w') {n : Nat} {f : FuncId} {ops : Array Oper} {a : AAct} {H : Heap} {e : AExit} {a' : AAct} {H' : Heap} (hd : drawA P h pr n f ops a H = some (e, a', H'))
    (hok : ∀ m, m < n → ∀ i a H a' H', stepA P h pr m f ops i a H = some (a', H') → StepOk P E base ops i a H a' H') {id : Nat} : CodeOk P E base (.region id ops true) a H e a' H' := by
  cases n with
  | zero => simp [drawA] at hd
  | succ n =>
    simp only [drawA] at hd
    cases ht : traceA P h pr n f ops (List.range ops.size) a H with
    | none => rw [ht] at hd; cases hd
    | some q =>
      obtain ⟨tr, a1, H1⟩ := q
      rw [ht] at hd
      simp only at hd
      split at hd
      case isFalse => cases hd
      rename_i hcond
      simp only [Bool.and_eq_true] at hcond
      obtain ⟨⟨hfol, hap⟩, hst⟩ := hcond
      cases hd
      obtain ⟨hlen, h0, hsteps⟩ := trace_text _ _ _ _ _ _ _ ht
      simp only [List.length_range] at hlen
      obtain ⟨hbef, hpair, hflo⟩ := apart_static hap
      let st : Nat → AAct × Heap := fun i => ((tr ++ [(a', H')])[i]?).getD (a, H)
      have hst_i : ∀ i, i ≤ ops.size → (tr ++ [(a', H')])[i]? = some (st i) := fun i hi => by
        have : i < (tr ++ [(a', H')]).length := by simp; omega
        simp only [st]
        rw [List.getElem?_eq_getElem this]; rfl
      have hstep : ∀ i, i < ops.size → ∃ m, m ≤ n ∧ stepA P h pr m f ops i (st i).1 (st i).2 = some ((st (i + 1)).1, (st (i + 1)).2) := fun i hi => by
        obtain ⟨m, x, y, hm, hx, hy, hs⟩ := hsteps i i (by simp [hi])
        rw [hst_i i (by omega)] at hx
        rw [hst_i (i + 1) (by omega)] at hy
        cases hx; cases hy
        exact ⟨m, hm, hs⟩
      have hchoose : ∀ i, ∃ q : AV × Nat, q.2 ≤ n ∧ ∀ o, ops[i]? = some o → stepA P h pr q.2 f ops i (st i).1 (st i).2 = some ((st (i + 1)).1, (st (i + 1)).2) ∧ (st (i + 1)).1 = (st i).1.put o.dst q.1 ∧
          (∀ a', Agree ops o (st i).1 a' → stepA P h pr q.2 f ops i a' (st i).2 = some (a'.put o.dst q.1, (st (i + 1)).2)) ∧
          (effectful o = false → h.heap f (o.dst.getD 0) = false → h.freeze f (o.dst.getD 0) = false → (st (i + 1)).2 = (st i).2 ∧ ∀ a' H', Agree ops o (st i).1 a' → (wantA ops (st i).1 o = true → ∃ H'', opA P h f (st i).1 o H' = some (q.1, H'')) → stepA P h pr q.2 f ops i a' H' = some (a'.put o.dst q.1, H')) ∧
          (wantA ops (st i).1 o = true → effectful o = false → ∃ H'', opA P h f (st i).1 o (st i).2 = some (q.1, H'')) ∧
          (isAlloc o = true → ∃ t z, o.op = .alloc t ∧ zeroOf P t = some z ∧ q.1 = .ptr (st i).2.next 0 ∧ (st (i + 1)).2 = (st i).2.new (.cells z)) := fun i => by
        by_cases hi : i < ops.size
        · obtain ⟨m, hm, hs⟩ := hstep i hi
          obtain ⟨o, v, ho, h1, h2, _, h4, h5, h6⟩ := step_spec hs
          refine ⟨(v, m), hm, fun o' ho' => ?_⟩
          rw [ho] at ho'; cases ho'
          exact ⟨hs, h1, h2, h4, h5, h6⟩
        · refine ⟨(.tuple [], 0), by omega, fun o ho => ?_⟩
          exact absurd (Array.getElem?_eq_some_iff.1 ho).1 hi
      let q : Nat → AV × Nat := fun i => Classical.choose (hchoose i)
      have hq : ∀ i, _ := fun i => Classical.choose_spec (hchoose i)
      have hHs : ∀ j, j ≤ ops.size → (tr.map (·.2) ++ [H'])[j]? = some (st j).2 := fun j hj => by
        have := hst_i j hj
        have e : tr.map (·.2) ++ [H'] = (tr ++ [(a', H')]).map (·.2) := by simp
        rw [e, List.getElem?_map, this]; rfl
      have hti : ∀ i, i < ops.size → tr[i]? = some (st i) := fun i hi => by
        have := hst_i i (by omega)
        rwa [List.getElem?_append_left (by omega)] at this
      let R : Run P E base h pr f ops := {
        A := fun i => (st i).1
        Hs := fun i => (st i).2
        v := fun i => (q i).1
        m := fun i => (q i).2
        env := hE
        before := hbef
        pair := hpair
        floats := hflo
        place := fun k o ho hal => ((hq k).2 o ho).2.2.2.2.2 hal
        put := fun i o ho => ((hq i).2 o ho).2.1
        same := fun i o a2 ho hg => ((hq i).2 o ho).2.2.1 a2 hg
        quiet := fun i o ho he => by
          obtain ⟨h1, h2, _⟩ := stable_spec hst ho he
          exact (((hq i).2 o ho).2.2.2.1 he h1 h2).1
        other := fun i o j a2 ho he hj hg hc => by
          have hlt : i < ops.size := (Array.getElem?_eq_some_iff.1 ho).1
          obtain ⟨h1, h2, h3⟩ := stable_spec hst ho he
          refine (((hq i).2 o ho).2.2.2.1 he h1 h2).2 a2 _ hg fun hw => ?_
          obtain ⟨v, H2, hv, hvj⟩ := h3 _ _ (hti i hlt) hw
          obtain ⟨Hj, H3, hj2, hv3⟩ := hvj j hj hc
          rw [hHs j hj] at hj2
          cases hj2
          obtain ⟨H4, hv4⟩ := ((hq i).2 o ho).2.2.2.2.1 hw he
          have hv5 := hv.symm.trans hv4
          simp only [Option.some.injEq, Prod.mk.injEq] at hv5
          obtain ⟨hv6, _⟩ := hv5
          subst hv6
          exact ⟨H3, hv3⟩
        ok := fun i a H a' H' hs => hok _ (Nat.lt_succ_of_le (hq i).1) i a H a' H' hs }
      intro σ w ac Q hR ha hN
      have hst0 : st 0 = (a, H) := by
        have := hst_i 0 (by omega)
        rw [h0] at this; exact (Option.some.inj this).symm
      have hstN : st ops.size = (a', H') := by
        have := hst_i ops.size (Nat.le_refl _)
        rw [List.getElem?_append_right (by omega)] at this
        simp [hlen] at this
        exact this.symm
      refine wp_region_any (by simpa using hfol) ?_
      have hR1 : Rep E base σ { w with drawn := w.drawn + 1 } H ∧ Goes base σ w σ { w with drawn := w.drawn + 1 } := hR.grow hE ⟨rfl, rfl, rfl, Nat.le_refl _, fun _ _ _ => rfl⟩
      refine Stand.all R (σ0 := σ) (w0 := { w with drawn := w.drawn + 1 }) (Q := Q) (fun σ' w' ac' h1 h2 h3 => ?_) ops.size (Array.replicate ops.size false) ac _ (by simp) ⟨⟨σ, fun _ => 0, ?_, ?_, .refl _ _ _, fun i o _ hpi => ?_, fun i j _ _ hpi => ?_⟩, ?_⟩ ?_ ?_
      · have e1 : R.A ops.size = a' := by show (st ops.size).1 = a'; rw [hstN]
        have e2 : R.Hs ops.size = H' := by show (st ops.size).2 = H'; rw [hstN]
        rw [e1] at h1; rw [e2] at h2
        exact hN σ' w' ac' h1 h2 (hR1.2.trans h3)
      · have e1 : puts R.dst (R.J (R.D fun j => (Array.replicate ops.size false).getD j false)) (fun j => (Array.replicate ops.size false).getD j false) (R.A 0) ops.size = a := by
          have : ∀ k, puts R.dst (R.J (R.D fun j => (Array.replicate ops.size false).getD j false)) (fun j => (Array.replicate ops.size false).getD j false) (R.A 0) k = R.A 0 := by
            intro k
            induction k with
            | zero => rfl
            | succ k ih =>
              simp only [puts]
              rw [if_neg, ih]
              simp [Array.getD_eq_getD_getElem?, Array.getElem?_replicate]
              split <;> simp
          rw [this]; show (st 0).1 = a; rw [hst0]
        rw [e1]
        exact ha.goes hR1.2
      · have e2 : lastE R.eff (R.D fun j => (Array.replicate ops.size false).getD j false) ops.size = 0 := by
          cases hl : lastE R.eff (R.D fun j => (Array.replicate ops.size false).getD j false) ops.size with
          | zero => rfl
          | succ e =>
            obtain ⟨_, _, h3⟩ := lastE_spec _ _ _ _ hl
            have h3 := Run.D_p h3
            simp [Array.getD_eq_getD_getElem?, Array.getElem?_replicate] at h3
            split at h3 <;> simp at h3
        rw [e2]
        have : R.Hs 0 = H := by show (st 0).2 = H; rw [hst0]
        rw [this]; exact hR1.1
      · simp [Array.getD_eq_getD_getElem?, Array.getElem?_replicate] at hpi
        split at hpi <;> simp at hpi
      · simp [Array.getD_eq_getD_getElem?, Array.getElem?_replicate] at hpi
        split at hpi <;> simp at hpi
      · intro j i hj
        simp [Array.getD_eq_getD_getElem?, Array.getElem?_replicate] at hj
        split at hj <;> simp at hj
      · intro h0 j hj; omega
      · simp

theorem step_ok (hE : ∀ w w', E w → Below base w w' → E w') (hpr : PrimsOk P E base pr) {n : Nat} (hcall : ∀ g args H v H', callA P h pr n g args H = some (v, H') → Enters P g ∧ CallOk P E base g args H v H')
    {f : FuncId} {ops : Array Oper} {i : Nat} {a : AAct} {H : Heap} {a' : AAct} {H' : Heap} (hs : stepA P h pr (n + 1) f ops i a H = some (a', H')) : StepOk P E base ops i a H a' H' := by
  intro σ w ac Q K hR ha hK
  simp only [stepA] at hs
  cases ho : ops[i]? with
  | none => rw [ho] at hs; cases hs
  | some o =>
    rw [ho] at hs
    simp only at hs
    unfold wpOp
    simp only [ho]
    rw [wanted_eq ha]
    by_cases hw : wantA ops a o = true
    · rw [if_pos hw] at hs ⊢
      refine .inl ?_
      by_cases hc : isCall o = true
      · rw [if_pos hc] at hs
        cases hcal : calleeA a o with
        | none => rw [hcal] at hs; cases hs
        | some p =>
          obtain ⟨g, args⟩ := p
          rw [hcal] at hs
          simp only at hs
          cases hca : callA P h pr n g args H with
          | none => rw [hca] at hs; cases hs
          | some q =>
            obtain ⟨v, H2⟩ := q
            rw [hca] at hs
            simp only [Option.map_some, Option.some.injEq, Prod.mk.injEq] at hs
            obtain ⟨rfl, rfl⟩ := hs
            obtain ⟨hen, hok⟩ := hcall g args H v H2 hca
            exact call_wp ha hR hcal hen hok fun u w' σ' h1 h2 h3 => hK σ' w' _ ((ha.goes h3).put h1 _) h2 h3 (fun t ht => act_other ac _ _ t (by simpa [ho] using ht))
      · rw [if_neg hc] at hs
        cases hop : opA P h f a o H with
        | none => rw [hop] at hs; cases hs
        | some q =>
          obtain ⟨v, H2⟩ := q
          rw [hop] at hs
          simp only [Option.map_some, Option.some.injEq, Prod.mk.injEq] at hs
          obtain ⟨rfl, rfl⟩ := hs
          exact op_wp (opA_good hE hR ha hop) fun u w' σ' h1 h2 h3 => hK σ' w' _ ((ha.goes h3).put h1 _) h2 h3 (fun t ht => act_other ac _ _ t (by simpa [ho] using ht))
    · rw [if_neg hw] at hs ⊢
      simp only [Option.some.injEq, Prod.mk.injEq] at hs
      obtain ⟨rfl, rfl⟩ := hs
      exact hK σ w _ (ha.put (undefR σ w) _) hR (.refl _ _ _) (fun t ht => act_other ac _ _ t (by simpa [ho] using ht))

structure All (P : Program) (E : World → Prop) (base : Nat) (h : Hints) (pr : Prims) (n : Nat) : Prop where
  exec : ∀ f c a H e a' H', execA P h pr n f c a H = some (e, a', H') → CodeOk P E base c a H e a' H'
  loop : ∀ f c a H e a' H', execA P h pr n f (.loop c) a H = some (e, a', H') → LoopOk P E base c a H e a' H'
  scope : ∀ f c cur a H e a' H', scopeA P h pr n f c cur a H = some (e, a', H') → ScopeOk P E base c cur a H e a' H'
  ops : ∀ f ops is a H a' H', opsA P h pr n f ops is a H = some (a', H') → OpsOk P E base ops is a H a' H'
  step : ∀ f ops i a H a' H', stepA P h pr n f ops i a H = some (a', H') → StepOk P E base ops i a H a' H'
  call : ∀ g args H v H', callA P h pr n g args H = some (v, H') → Enters P g ∧ CallOk P E base g args H v H'

theorem all_ok (hE : ∀ w w', E w → Below base w w' → E w') (hpr : PrimsOk P E base pr) : ∀ N n, n ≤ N → All P E base h pr n := by
  intro N
  induction N with
  | zero =>
    intro n hn
    have : n = 0 := by omega
    subst this
    exact ⟨by intros; simp_all [execA], by intros; simp_all [execA], by intros; simp_all [scopeA], by intros; simp_all [opsA], by intros; simp_all [stepA], by intros; simp_all [callA]⟩
  | succ N IH =>
    intro n hn
    by_cases hle : n ≤ N
    · exact IH n hle
    · have : n = N + 1 := by omega
      subst this
      have ih := IH N (Nat.le_refl _)
      have hcallN := ih.call
      -- calls
      have hcall : ∀ g args H v H', callA P h pr (N + 1) g args H = some (v, H') → Enters P g ∧ CallOk P E base g args H v H' := by
        intro g args H v H' hc
        simp only [callA] at hc
        cases hp : pr g with
        | some p => rw [hp] at hc; exact ⟨(hpr g p hp).1, (hpr g p hp).2 args H v H' hc⟩
        | none =>
          rw [hp] at hc
          simp only at hc
          cases hf : P.funcs[g]? with
          | none => rw [hf] at hc; cases hc
          | some fn =>
            rw [hf] at hc
            simp only at hc
            cases hb : fn.body with
            | none => rw [hb] at hc; cases hc
            | some c =>
              rw [hb] at hc
              simp only at hc
              split at hc
              · cases hc
              rename_i hname
              refine ⟨⟨fn, hf, by simp [hb], hname⟩, fun σ w us hR hus => ?_⟩
              refine calls_of_wp hf hb ?_
              have hlen := hus.length
              have ha : ActR σ w { n := max args.length fn.ntmps, get := fun i => args.getD i (.tuple []) } { tmps := us ++ Array.replicate (fn.ntmps - us.size) undef, defers := [] } := by
                refine ⟨by simp at hlen ⊢; omega, fun t ht => ?_, rfl⟩
                by_cases hta : t < args.length
                · have hx : args[t]? = some args[t] := by simp [hta]
                  obtain ⟨u, hu, hr⟩ := hus.get hx
                  have hts : t < us.size := by simpa [hlen] using hta
                  have e1 : args.getD t (.tuple []) = args[t] := by simp [List.getD, hx]
                  have e2 : (us ++ Array.replicate (fn.ntmps - us.size) undef).getD t undef = u := by
                    rw [Array.getD_eq_getD_getElem?, Array.getElem?_append_left hts]
                    rw [Array.getElem?_toList] at hu
                    rw [hu]; rfl
                  show Vr σ w (args.getD t (.tuple [])) _
                  rw [e1, e2]; exact hr
                · have e1 : args.getD t (.tuple []) = .tuple [] := by simp [List.getD, List.getElem?_eq_none (Nat.le_of_not_lt hta)]
                  have hts : us.size ≤ t := by simp at hlen; omega
                  have e2 : (us ++ Array.replicate (fn.ntmps - us.size) undef).getD t undef = undef := by
                    rw [Array.getD_eq_getD_getElem?, Array.getElem?_append_right hts, Array.getElem?_replicate]
                    split <;> rfl
                  show Vr σ w (args.getD t (.tuple [])) _
                  rw [e1, e2]; exact undefR σ w
              have post : ∀ a1 H1, resultsA P fn a1 H1 = some v → H1 = H' → ∀ σ' w' ac', ActR σ' w' a1 ac' → Rep E base σ' w' H1 → Goes base σ w σ' w' → ac'.defers = [] ∧ ∃ u, (results fn ac'.tmps).run P w' = .ok u w' ∧ CallPost E base σ w v H' (.returned u) w' := by
                intro a1 H1 hres hH σ' w' ac' h1 h2 h3
                subst hH
                obtain ⟨u, h4, h5⟩ := results_good h1 h2 hres
                exact ⟨h1.defers, u, h4, u, σ', rfl, h5, h2, h3⟩
              split at hc
              · rename_i a1 H1 hex
                cases hres : resultsA P fn a1 H1 with
                | none => rw [hres] at hc; cases hc
                | some r =>
                  rw [hres] at hc
                  simp only [Option.map_some, Option.some.injEq, Prod.mk.injEq] at hc
                  obtain ⟨rfl, rfl⟩ := hc
                  exact ih.exec g c _ H _ _ _ hex σ w _ _ hR ha fun σ' w' ac' h1 h2 h3 => post a1 H1 hres rfl σ' w' ac' h1 h2 h3
              · rename_i a1 H1 hex
                cases hres : resultsA P fn a1 H1 with
                | none => rw [hres] at hc; cases hc
                | some r =>
                  rw [hres] at hc
                  simp only [Option.map_some, Option.some.injEq, Prod.mk.injEq] at hc
                  obtain ⟨rfl, rfl⟩ := hc
                  exact ih.exec g c _ H _ _ _ hex σ w _ _ hR ha fun σ' w' ac' h1 h2 h3 => post a1 H1 hres rfl σ' w' ac' h1 h2 h3
              · cases hc
      have hstep : ∀ f ops i a H a' H', stepA P h pr (N + 1) f ops i a H = some (a', H') → StepOk P E base ops i a H a' H' :=
        fun f ops i a H a' H' hs => step_ok hE hpr hcallN hs
      have hops : ∀ f ops is a H a' H', opsA P h pr (N + 1) f ops is a H = some (a', H') → OpsOk P E base ops is a H a' H' := by
        intro f ops is a H a' H' hs σ w ac Q hR ha hN
        cases is with
        | nil =>
          simp only [opsA, Option.some.injEq, Prod.mk.injEq] at hs
          obtain ⟨rfl, rfl⟩ := hs
          exact hN σ w ac ha hR (.refl _ _ _)
        | cons i rest =>
          simp only [opsA] at hs
          cases hst : stepA P h pr N f ops i a H with
          | none => rw [hst] at hs; cases hs
          | some q =>
            obtain ⟨a1, H1⟩ := q
            rw [hst] at hs
            simp only at hs
            rw [wpOps_cons]
            exact ih.step f ops i a H a1 H1 hst σ w ac Q _ hR ha fun σ' w' ac' h1 h2 h3 _ => ih.ops f ops rest a1 H1 a' H' hs σ' w' ac' Q h2 h1 (hN.goes h3)
      have hloop : ∀ f c a H e a' H', execA P h pr (N + 1) f (.loop c) a H = some (e, a', H') → LoopOk P E base c a H e a' H' := by
        intro f c a H e a' H' hx σ w ac Q hR ha hN b k cs
        simp only [execA] at hx
        split at hx
        · rename_i a1 H1 hb
          obtain ⟨e1, a2, w2, hq, harr⟩ := ih.exec f c a H .normal a1 H1 hb σ w ac (Exit.then (fun a2 w2 => ∃ e a' w', Q e a' w' ∧ Arrives P (lone (b.at a2 (.code c :: .inLoop c :: k)) cs w2) b k cs e a' w') (fun _ _ _ => False)) hR ha
            (fun σ' w' ac' h1 h2 h3 => ih.loop f c a1 H1 e a' H' hx σ' w' ac' Q h2 h1 (hN.goes h3) b k cs) b (.inLoop c :: k) cs
          cases e1 with
          | normal =>
            obtain ⟨e3, a3, w3, hq3, harr3⟩ := hq
            exact ⟨e3, a3, w3, hq3, .of_steps (Steps.trans harr (.one step_inLoop)) harr3⟩
          | exit id => exact hq.elim
          | goto l => exact hq.elim
          | ret => exact hq.elim
          | panic ch => exact hq.elim
          | outgrown => exact hq.elim
        · rename_i hno
          obtain ⟨e1, a2, w2, hq, harr⟩ := ih.exec f c a H e a' H' hx σ w ac (fun e1 a1 w1 => e1 = e.up ∧ Q e1 a1 w1) hR ha (fun σ' w' ac' h1 h2 h3 => ⟨rfl, hN σ' w' ac' h1 h2 h3⟩) b (.inLoop c :: k) cs
          obtain ⟨rfl, hq⟩ := hq
          cases e with
          | normal => exact absurd hx (hno a' H')
          | exit id => exact ⟨_, a2, w2, hq, .pass (x := .inLoop c) rfl (fun _ _ => .inl (by simp [AExit.up])) harr⟩
          | goto l => exact ⟨_, a2, w2, hq, .pass (x := .inLoop c) rfl (fun _ _ => .inl (by simp [AExit.up])) harr⟩
          | ret => exact ⟨_, a2, w2, hq, .pass (x := .inLoop c) rfl (fun _ _ => .inl (by simp [AExit.up])) harr⟩
      have hscope : ∀ f c cur a H e a' H', scopeA P h pr (N + 1) f c cur a H = some (e, a', H') → ScopeOk P E base c cur a H e a' H' := by
        intro f c cur a H e a' H' hx σ w ac Q hR ha hN b k cs
        simp only [scopeA] at hx
        split at hx
        · rename_i l a1 H1 hb
          obtain ⟨e1, a2, w2, hq, harr⟩ := ih.exec f cur a H (.goto l) a1 H1 hb σ w ac (fun e1 a1' w1 => e1 = .goto l ∧ ∃ σ1, ActR σ1 w1 a1 a1' ∧ Rep E base σ1 w1 H1 ∧ Goes base σ w σ1 w1) hR ha
            (fun σ' w' ac' h1 h2 h3 => ⟨rfl, σ', h1, h2, h3⟩) b (.inScope c :: k) cs
          obtain ⟨rfl, σ1, h1, h2, h3⟩ := hq
          cases hl : findLabel c l with
          | some rest =>
            rw [hl] at hx
            simp only at hx
            have hsteps := harr (.code rest :: .inScope c :: k) (by simp [gotoIn, hl])
            obtain ⟨e4, a4, w4, hq4, harr4⟩ := ih.scope f c rest a1 H1 e a' H' hx σ1 w2 a2 Q h2 h1 (hN.goes h3) b k cs
            exact ⟨e4, a4, w4, hq4, .of_steps hsteps harr4⟩
          | none =>
            rw [hl] at hx
            simp only [Option.some.injEq, Prod.mk.injEq] at hx
            obtain ⟨rfl, rfl, rfl⟩ := hx
            exact ⟨.goto l, a2, w2, hN σ1 w2 a2 h1 h2 h3, fun k' hk => harr k' (by simp [gotoIn, hl, hk])⟩
        · rename_i hno
          obtain ⟨e1, a2, w2, hq, harr⟩ := ih.exec f cur a H e a' H' hx σ w ac (fun e1 a1 w1 => e1 = e.up ∧ Q e1 a1 w1) hR ha (fun σ' w' ac' h1 h2 h3 => ⟨rfl, hN σ' w' ac' h1 h2 h3⟩) b (.inScope c :: k) cs
          obtain ⟨rfl, hq⟩ := hq
          cases e with
          | normal => exact ⟨.normal, a2, w2, hq, Steps.trans harr (.one step_inScope)⟩
          | exit id => exact ⟨.exit id, a2, w2, hq, fun k' hk => harr k' (by simp [exitTo, hk])⟩
          | goto l => exact absurd hx (hno l a' H')
          | ret => exact ⟨.ret, a2, w2, hq, harr⟩
      refine ⟨?_, hloop, hscope, hops, hstep, hcall⟩
      intro f c a H e a' H' hx σ w ac Q hR ha hN
      cases c with
      | skip =>
        simp only [execA, Option.some.injEq, Prod.mk.injEq] at hx
        obtain ⟨rfl, rfl, rfl⟩ := hx
        exact wp_skip (hN σ w ac ha hR (.refl _ _ _))
      | label l =>
        simp only [execA, Option.some.injEq, Prod.mk.injEq] at hx
        obtain ⟨rfl, rfl, rfl⟩ := hx
        exact wp_label (hN σ w ac ha hR (.refl _ _ _))
      | exit id =>
        simp only [execA, Option.some.injEq, Prod.mk.injEq] at hx
        obtain ⟨rfl, rfl, rfl⟩ := hx
        exact wp_exit (hN σ w ac ha hR (.refl _ _ _))
      | goto l =>
        simp only [execA, Option.some.injEq, Prod.mk.injEq] at hx
        obtain ⟨rfl, rfl, rfl⟩ := hx
        exact wp_goto (hN σ w ac ha hR (.refl _ _ _))
      | ret =>
        simp only [execA, Option.some.injEq, Prod.mk.injEq] at hx
        obtain ⟨rfl, rfl, rfl⟩ := hx
        exact wp_ret (hN σ w ac ha hR (.refl _ _ _))
      | seq x y =>
        simp only [execA] at hx
        split at hx
        · rename_i a1 H1 hb
          exact wp_seq (ih.exec f x a H .normal a1 H1 hb σ w ac _ hR ha fun σ' w' ac' h1 h2 h3 => ih.exec f y a1 H1 e a' H' hx σ' w' ac' Q h2 h1 (hN.goes h3))
        · rename_i hno
          refine wp_seq (ih.exec f x a H e a' H' hx σ w ac _ hR ha fun σ' w' ac' h1 h2 h3 => ?_)
          have := hN σ' w' ac' h1 h2 h3
          cases e with
          | normal => exact absurd hx (hno a' H')
          | exit id => exact this
          | goto l => exact this
          | ret => exact this
      | cond c x y =>
        simp only [execA] at hx
        split at hx
        · rename_i hc
          have hr := ha.eval hc
          generalize hu : ac.eval c = u at hr
          cases hr
          exact wp_cond_true hu (ih.exec f x a H e a' H' hx σ w ac Q hR ha hN)
        · rename_i hc
          have hr := ha.eval hc
          generalize hu : ac.eval c = u at hr
          cases hr
          exact wp_cond_false hu (ih.exec f y a H e a' H' hx σ w ac Q hR ha hN)
        · cases hx
      | block id c =>
        simp only [execA] at hx
        split at hx
        · rename_i id' a1 H1 hb
          refine wp_block (ih.exec f c a H (.exit id') a1 H1 hb σ w ac _ hR ha fun σ' w' ac' h1 h2 h3 => ?_)
          simp only [AExit.up, Exit.inBlock]
          split at hx
          · rename_i hid
            simp only [Option.some.injEq, Prod.mk.injEq] at hx
            obtain ⟨rfl, rfl, rfl⟩ := hx
            rw [if_pos hid]; exact hN σ' w' ac' h1 h2 h3
          · rename_i hid
            simp only [Option.some.injEq, Prod.mk.injEq] at hx
            obtain ⟨rfl, rfl, rfl⟩ := hx
            rw [if_neg hid]; exact hN σ' w' ac' h1 h2 h3
        · rename_i hno
          refine wp_block (ih.exec f c a H e a' H' hx σ w ac _ hR ha fun σ' w' ac' h1 h2 h3 => ?_)
          have := hN σ' w' ac' h1 h2 h3
          cases e with
          | normal => exact this
          | exit id' => exact absurd hx (hno id' a' H')
          | goto l => exact this
          | ret => exact this
      | loop c =>
        intro b k cs
        obtain ⟨e1, a1, w1, hq, harr⟩ := hloop f c a H e a' H' hx σ w ac Q hR ha hN b k cs
        exact ⟨e1, a1, w1, hq, .of_steps (.one step_loop) harr⟩
      | scope c =>
        simp only [execA] at hx
        intro b k cs
        obtain ⟨e1, a1, w1, hq, harr⟩ := ih.scope f c c a H e a' H' hx σ w ac Q hR ha hN b k cs
        exact ⟨e1, a1, w1, hq, .of_steps (.one step_scope) harr⟩
      | region id ops draw =>
        cases draw with
        | false =>
          simp only [execA] at hx
          cases ho : opsA P h pr N f ops (List.range ops.size) a H with
          | none => rw [ho] at hx; cases hx
          | some q =>
            obtain ⟨a1, H1⟩ := q
            rw [ho] at hx
            simp only [Option.map_some, Option.some.injEq, Prod.mk.injEq] at hx
            obtain ⟨rfl, rfl, rfl⟩ := hx
            exact wp_region (ih.ops f ops _ a H a1 H1 ho σ w ac Q hR ha hN)
        | true =>
          simp only [execA] at hx
          exact draw_ok hE hx (fun m hm i a H a' H' hs => (IH m (by omega)).step f ops i a H a' H' hs) σ w ac Q hR ha hN
      | rangeFunc f' ps as bd => simp [execA] at hx
      | refuse why => simp [execA] at hx

/-- WHAT THE ABSTRACT MACHINE ANSWERS, THE FUNCTION ANSWERS. -/
theorem call_sound (hE : ∀ w w', E w → Below base w w' → E w') (hpr : PrimsOk P E base pr) {n : Nat} {g : FuncId} {args : List AV} {H : Heap} {v : AV} {H' : Heap} (hc : callA P h pr n g args H = some (v, H')) : CallOk P E base g args H v H' :=
  ((all_ok (h := h) hE hpr n n (Nat.le_refl _)).call g args H v H' hc).2
end
end Go.AM
