/- The abstract machine's runs, held against the kit's: code, calls. -/
import Derived.Test.YtedfjabpnmjngaaDoorAM13
set_option linter.unusedSimpArgs false
set_option linter.unusedVariables false
namespace Go.AM
open Go Go.RowKit

def AExit.up : AExit → Exit
  | .normal => .normal
  | .exit id => .exit id
  | .goto l => .goto l
  | .ret => .ret

section
variable {P : Program} {E : World → Prop} {base : Nat}

/-- What a call comes to. -/
def CallPost (E : World → Prop) (base : Nat) (σ : Sim) (w : World) (v : AV) (H' : Heap) (e : Ending) (w' : World) : Prop :=
  ∃ u σ', e = .returned u ∧ Vr σ' w' v u ∧ Rep E base σ' w' H' ∧ Goes base σ w σ' w'

def CallOk (P : Program) (E : World → Prop) (base : Nat) (f : FuncId) (args : List AV) (H : Heap) (v : AV) (H' : Heap) : Prop :=
  ∀ (σ : Sim) (w : World) (us : Array Value), Rep E base σ w H → VrL σ w args us.toList → Calls P f us w (CallPost E base σ w v H')

/-- A function that may be entered. -/
def Enters (P : Program) (f : FuncId) : Prop := ∃ fn, P.funcs[f]? = some fn ∧ fn.body.isSome ∧ fn.name ≠ "runtime.NumGoroutine"

def PrimsOk (P : Program) (E : World → Prop) (base : Nat) (pr : Prims) : Prop :=
  ∀ f p, pr f = some p → Enters P f ∧ ∀ args H v H', p args H = some (v, H') → CallOk P E base f args H v H'

/-- How code goes on. -/
def Next (E : World → Prop) (base : Nat) (σ : Sim) (w : World) (e : AExit) (a' : AAct) (H' : Heap) (Q : Exit → Act → World → Prop) : Prop :=
  ∀ σ' w' ac', ActR σ' w' a' ac' → Rep E base σ' w' H' → Goes base σ w σ' w' → Q e.up ac' w'
theorem Next.goes {σ σ1 : Sim} {w w1 : World} {e : AExit} {a' : AAct} {H' : Heap} {Q : Exit → Act → World → Prop} (h : Next E base σ w e a' H' Q) (g : Goes base σ w σ1 w1) : Next E base σ1 w1 e a' H' Q :=
  fun σ' w' ac' h1 h2 h3 => h σ' w' ac' h1 h2 (g.trans h3)

def CodeOk (P : Program) (E : World → Prop) (base : Nat) (c : Code) (a : AAct) (H : Heap) (e : AExit) (a' : AAct) (H' : Heap) : Prop :=
  ∀ (σ : Sim) (w : World) (ac : Act) (Q : Exit → Act → World → Prop), Rep E base σ w H → ActR σ w a ac → Next E base σ w e a' H' Q → c.wp P Q ac w
def LoopOk (P : Program) (E : World → Prop) (base : Nat) (c : Code) (a : AAct) (H : Heap) (e : AExit) (a' : AAct) (H' : Heap) : Prop :=
  ∀ (σ : Sim) (w : World) (ac : Act) (Q : Exit → Act → World → Prop), Rep E base σ w H → ActR σ w a ac → Next E base σ w e a' H' Q →
    ∀ (b : Frame) (k : List Item) (cs : List Frame), ∃ e a' w', Q e a' w' ∧ Arrives P (lone (b.at ac (.code c :: .inLoop c :: k)) cs w) b k cs e a' w'
def ScopeOk (P : Program) (E : World → Prop) (base : Nat) (c cur : Code) (a : AAct) (H : Heap) (e : AExit) (a' : AAct) (H' : Heap) : Prop :=
  ∀ (σ : Sim) (w : World) (ac : Act) (Q : Exit → Act → World → Prop), Rep E base σ w H → ActR σ w a ac → Next E base σ w e a' H' Q →
    ∀ (b : Frame) (k : List Item) (cs : List Frame), ∃ e a' w', Q e a' w' ∧ Arrives P (lone (b.at ac (.code cur :: .inScope c :: k)) cs w) b k cs e a' w'
def StepOk (P : Program) (E : World → Prop) (base : Nat) (ops : Array Oper) (i : Nat) (a : AAct) (H : Heap) (a' : AAct) (H' : Heap) : Prop :=
  ∀ (σ : Sim) (w : World) (ac : Act) (Q : Exit → Act → World → Prop) (K : Act → World → Prop), Rep E base σ w H → ActR σ w a ac →
    (∀ σ' w' ac', ActR σ' w' a' ac' → Rep E base σ' w' H' → Goes base σ w σ' w' → (∀ t, (ops[i]?).bind (·.dst) ≠ some t → ac'.tmps[t]? = ac.tmps[t]?) → K ac' w') → wpOp P ops Q i K ac w
def OpsOk (P : Program) (E : World → Prop) (base : Nat) (ops : Array Oper) (is : List Nat) (a : AAct) (H : Heap) (a' : AAct) (H' : Heap) : Prop :=
  ∀ (σ : Sim) (w : World) (ac : Act) (Q : Exit → Act → World → Prop), Rep E base σ w H → ActR σ w a ac → Next E base σ w .normal a' H' Q → wpOps P ops Q is ac w

theorem act_other (ac : Act) (d : Option Tmp) (u : Value) (t : Tmp) (h : d ≠ some t) : (ac.put d u).tmps[t]? = ac.tmps[t]? := by
  cases d with
  | none => rfl
  | some d =>
    have : d ≠ t := fun e => h (by rw [e])
    simp only [Act.put]
    exact Array.getElem?_setIfInBounds_ne this

theorem yielded_eq {σ : Sim} {w : World} {a : AAct} {ac : Act} (ha : ActR σ w a ac) (ops : Array Oper) (j : Nat) : yielded ops ac.tmps j = yieldedA ops a j := by
  unfold yielded yieldedA
  cases hd : (ops[j]?).bind (·.dst) with
  | none => rfl
  | some d =>
    simp only [Option.bind_some, AAct.eval]
    by_cases h : d < a.n
    · rw [if_pos h]
      have hr := ha.get d h
      have hlt : d < ac.tmps.size := ha.size ▸ h
      have hg : ac.tmps.getD d undef = ac.tmps[d] := by simp [Array.getD, hlt]
      rw [hg] at hr
      have : ac.tmps[d]? = some ac.tmps[d] := by simp [hlt]
      rw [this]
      generalize ac.tmps[d] = u at hr
      generalize a.get d = x at hr
      cases hr <;> rfl
    · rw [if_neg h]
      have : ac.tmps[d]? = none := Array.getElem?_eq_none (ha.size ▸ Nat.le_of_not_lt h)
      rw [this]
theorem wanted_eq {σ : Sim} {w : World} {a : AAct} {ac : Act} (ha : ActR σ w a ac) (ops : Array Oper) (o : Oper) : Region.wanted o (yielded ops ac.tmps) = wantA ops a o := by
  unfold Region.wanted wantA
  cases o.guard with
  | none => rfl
  | some p => obtain ⟨j, b⟩ := p; simp only; rw [yielded_eq ha]

theorem op_wp {σ : Sim} {w : World} {o : Oper} {ac : Act} {v : AV} {H' : Heap} (hg : Good P E base σ w (execOp ac.eval o) v H') {K : Act → World → Prop} {Q : Exit → Act → World → Prop}
    (hK : ∀ u w' σ', Vr σ' w' v u → Rep E base σ' w' H' → Goes base σ w σ' w' → K (ac.put o.dst u) w') : o.wp P ac w K Q := by
  obtain ⟨n, u, w', σ', h1, h2, h3, h4, h5⟩ := hg
  unfold Oper.wp
  rw [h1]
  rcases h2 with rfl | ⟨rfl, rfl⟩
  · exact hK u w' σ' h3 h4 h5
  · exact hK undef w' σ' h3 h4 h5

theorem call_wp {σ : Sim} {w : World} {H : Heap} {a : AAct} {ac : Act} (ha : ActR σ w a ac) (hR : Rep E base σ w H) {o : Oper} {g : FuncId} {args : List AV} (hc : calleeA a o = some (g, args)) (hen : Enters P g) {v : AV} {H' : Heap}
    (hcall : CallOk P E base g args H v H') {K : Act → World → Prop} {Q : Exit → Act → World → Prop} (hK : ∀ u w' σ', Vr σ' w' v u → Rep E base σ' w' H' → Goes base σ w σ' w' → K (ac.put o.dst u) w') : o.wp P ac w K Q := by
  unfold calleeA at hc
  split at hc
  case h_2 => cases hc
  rename_i x cargs argTypes hop
  obtain ⟨fv, hf, hc⟩ := ex_bind hc
  obtain ⟨vs, hvs, hc⟩ := ex_bind hc
  split at hc
  case h_2 => cases hc
  rename_i g' first captured _
  simp only [Option.some.injEq, Prod.mk.injEq] at hc
  obtain ⟨rfl, rfl⟩ := hc
  have hfr := ha.eval hf
  have hvr := args_good ha _ _ hvs
  generalize hfu : ac.eval x = fu at hfr
  cases hfr
  rename_i fs cs h1 h2
  obtain ⟨fn, hfn, hb, hname⟩ := hen
  have hrun : (execOp ac.eval o).run P w = .ok (.enter g' (fs ++ cargs.map ac.eval ++ cs)) w := by
    have hbn : fn.body ≠ none := by cases hbb : fn.body <;> simp [hbb] at hb ⊢
    simp [execOp, hop, resolve, hfu, Deferred.ofValue, Go.invoke, callFunc, program, Sem.run, hfn, hbn, hname]
  unfold Oper.wp
  rw [hrun]
  have hargs : VrL σ w (first ++ vs ++ captured) (fs ++ cargs.map ac.eval ++ cs).toList := by
    simp only [Array.toList_append, Array.toList_map]
    exact (h1.append hvr).append h2
  refine (hcall σ w _ hR hargs).mono ?_
  rintro e w' ⟨u, σ', rfl, h3, h4, h5⟩
  exact hK u w' σ' h3 h4 h5

def resultC (tmps : Array Value) : ResultVar → Sem Value
  | .tmp t => pure (tmps.getD t undef)
  | .cell a t => do loadVar t (← asAddr (tmps.getD a undef))
theorem resultOne {σ : Sim} {w : World} {H : Heap} {a : AAct} {ac : Act} (ha : ActR σ w a ac) (hR : Rep E base σ w H) {r : ResultVar} {v : AV} (h : resultA P a H r = some v) : ∃ u, (resultC ac.tmps r).run P w = .ok u w ∧ Vr σ w v u := by
  cases r with
  | tmp t => exact ⟨_, rfl, ha.eval (x := .tmp t) h⟩
  | cell c t =>
    simp only [resultA] at h
    split at h
    · rename_i b off hev
      have hr := ha.eval hev
      simp only [Act.eval] at hr
      generalize hu : ac.tmps.getD c undef = u at hr
      cases hr
      rename_i g cap hφ
      cases hb : H.objs b <;> rw [hb] at h <;> try (cases h; done)
      rename_i cs
      obtain ⟨u, h3, h4⟩ := takeVar_behind h (hR.behind (off := off) hφ (.inl hb))
      refine ⟨u, ?_, h4⟩
      simp only [resultC, hu, asAddr, Sem.run_bind, Sem.run_pure, Result.andThen_ok, h3]
    · cases h
theorem resultsAll {σ : Sim} {w : World} {H : Heap} {a : AAct} {ac : Act} (ha : ActR σ w a ac) (hR : Rep E base σ w H) : ∀ (l : List ResultVar) (vs : List AV), l.mapM (resultA P a H) = some vs → ∃ us, (l.mapM (resultC ac.tmps)).run P w = .ok us w ∧ VrL σ w vs us
  | [], vs, h => by simp at h; subst h; exact ⟨[], by simp, .nil⟩
  | r :: l, vs, h => by
    simp only [List.mapM_cons, Option.bind_eq_bind, Option.pure_def] at h
    obtain ⟨x, hx, h⟩ := ex_bind h
    obtain ⟨xs, hxs, h⟩ := ex_bind h
    cases h
    obtain ⟨us, h1, h2⟩ := resultsAll ha hR l xs hxs
    obtain ⟨u, h3, h4⟩ := resultOne ha hR hx
    exact ⟨u :: us, by rw [List.mapM_cons]; simp only [Sem.run_bind, h3, Result.andThen_ok, h1, Sem.run_pure], .cons h4 h2⟩

theorem results_good {σ : Sim} {w : World} {H : Heap} {a : AAct} {ac : Act} (ha : ActR σ w a ac) (hR : Rep E base σ w H) {fn : Func} {v : AV} (h : resultsA P fn a H = some v) : ∃ u, (results fn ac.tmps).run P w = .ok u w ∧ Vr σ w v u := by
  have hunf : results fn ac.tmps = (do let vs ← fn.results.mapM (resultC ac.tmps); pure (if h : vs.size = 1 then vs[0] else .tuple vs)) := rfl
  rw [hunf]
  unfold resultsA at h
  split at h
  · rename_i v' hm
    cases h
    obtain ⟨us, h1, h2⟩ := resultsAll ha hR _ _ hm
    cases h2 with
    | cons hx hn =>
      cases hn
      rename_i u
      refine ⟨u, ?_, hx⟩
      simp only [Array.mapM_eq_mapM_toList, Sem.run_bind, Sem.run_map]
      rw [h1]
      simp
  · rename_i vs hno hm
    cases h
    obtain ⟨us, h1, h2⟩ := resultsAll ha hR _ _ hm
    refine ⟨.tuple us.toArray, ?_, .tuple (by simpa using h2)⟩
    simp only [Array.mapM_eq_mapM_toList, Sem.run_bind, Sem.run_map]
    rw [h1]
    have hlen : us.length ≠ 1 := fun hl => by
      have := h2.length
      match vs, this with
      | [v], _ => exact hno v rfl
      | [], h => simp at h; omega
      | _ :: _ :: _, h => simp at h; omega
    simp [hlen]
  · cases h
end
end Go.AM
