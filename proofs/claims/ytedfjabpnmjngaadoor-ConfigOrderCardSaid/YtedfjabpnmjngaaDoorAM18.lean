/- Regions whose order is open: every order comes to the text's end. -/
import Derived.Test.YtedfjabpnmjngaaDoorAM17
set_option linter.unusedSimpArgs false
set_option linter.unusedVariables false
namespace Go.AM
open Go Go.RowKit

section
variable {P : Program} {E : World → Prop} {base : Nat} {h : Hints} {pr : Prims}

theorem apart_static {ops : Array Oper} (hs : apartA ops = true) : (∀ j o, ops[j]? = some o → (∀ e ∈ o.after, Region.binds .any e = true → e.on < j)) ∧
    (∀ i j oi oj, ops[i]? = some oi → ops[j]? = some oj → i < j → ((beforeA ops).getD j 0).testBit i = true ∨ ((¬ (effectful oi = true ∧ effectful oj = true) ∨ isAlloc oj = true) ∧ oi.apart ops oj = true)) ∧
    (∀ i j oi, ops[i]? = some oi → j < ops.size → i < j → isAlloc oi = true → ((beforeA ops).getD j 0).testBit i = true → ∀ e oe, e < i → ops[e]? = some oe → effectful oe = true → ((beforeA ops).getD j 0).testBit e = true) := by
  unfold apartA at hs
  simp only [List.all_eq_true, List.mem_range, Bool.and_eq_true] at hs
  refine ⟨fun j o hj e he hb => ?_, fun i j oi oj hi hj hij => ?_, fun i j oi hi hlt hij hal hb e oe hei he hee => ?_⟩
  · have hlt : j < ops.size := (Array.getElem?_eq_some_iff.1 hj).1
    have hd : ops.getD j default = o := by simp [Array.getD_eq_getD_getElem?, hj]
    have := (hs j hlt).1.1.1
    rw [hd] at this
    have := Array.all_eq_true_iff_forall_mem.1 this e he
    simpa [hb] using this
  · have hlt : j < ops.size := (Array.getElem?_eq_some_iff.1 hj).1
    have hdi : ops.getD i default = oi := by simp [Array.getD_eq_getD_getElem?, hi]
    have hdj : ops.getD j default = oj := by simp [Array.getD_eq_getD_getElem?, hj]
    have := (hs j hlt).1.2 i hij
    rw [hdi, hdj] at this
    simp only [Bool.or_eq_true, Bool.and_eq_true, Bool.not_eq_true'] at this
    rcases this with h1 | ⟨h1 | h1, h2⟩
    · exact .inl h1
    · exact .inr ⟨.inl fun hh => (by obtain ⟨ha, hb⟩ := hh; rw [ha, hb] at h1; cases h1), h2⟩
    · exact .inr ⟨.inr h1, h2⟩
  · have hdi : ops.getD i default = oi := by simp [Array.getD_eq_getD_getElem?, hi]
    have hde : ops.getD e default = oe := by simp [Array.getD_eq_getD_getElem?, he]
    have := (hs j hlt).2 i hij
    rw [hdi, hal, hb] at this
    simp only [Bool.and_self, Bool.not_true, Bool.false_or, List.all_eq_true, List.mem_range] at this
    have := this e hei
    rw [hde, hee] at this
    simpa using this

theorem filter_set : ∀ (l : List Bool) (i : Nat), l[i]? = some false → ((l.set i true).filter (fun b => !b)).length + 1 ≤ (l.filter (fun b => !b)).length
  | [], i, h => by simp at h
  | b :: l, 0, h => by simp at h; subst h; simp
  | b :: l, i + 1, h => by
    have := filter_set l i (by simpa using h)
    cases b <;> simp <;> omega

theorem oper_apart {ops : Array Oper} {x y : Oper} (h : x.apart ops y = true) : (∀ d, x.dst = some d → d ∉ y.looksAt ops ∧ y.dst ≠ some d) ∧ (∀ d, y.dst = some d → d ∉ x.looksAt ops) := by
  unfold Oper.apart at h
  simp only [Bool.and_eq_true] at h
  refine ⟨fun d hd => ?_, fun d hd => ?_⟩
  · have := h.1
    rw [hd] at this
    simp at this
    exact ⟨by simpa using this.1, this.2⟩
  · have := h.2
    rw [hd] at this
    simpa using this

theorem before_lt {ops : Array Oper} (hbef : ∀ j o, ops[j]? = some o → (∀ e ∈ o.after, Region.binds .any e = true → e.on < j)) : ∀ {i : Nat} {o : Oper}, ops[i]? = some o → ∀ {e : Nat}, ((beforeA ops).getD i 0).testBit e = true → e < i := by
  intro i
  induction i using Nat.strongRecOn with
  | _ i ih =>
    intro o ho e hb
    have hlt : i < ops.size := (Array.getElem?_eq_some_iff.1 ho).1
    obtain ⟨x, hx, hbx, hc⟩ := before_spec ho hb
    have hxi := hbef i o ho x hx hbx
    rcases hc with hc | hc
    · omega
    · have hox : ops[x.on]? = some ops[x.on] := by simp [show x.on < ops.size by omega]
      have := ih x.on hxi hox hc
      omega

/-- A new place, made for real. -/
theorem alloc_real {ops : Array Oper} {i : Nat} {o : Oper} (ho : ops[i]? = some o) (ha : isAlloc o = true) {t : TypeId} {z : List AV} (hop : o.op = .alloc t) (hz : zeroOf P t = some z) {ac : Act} {w : World} {Q : Exit → Act → World → Prop} {K : Act → World → Prop}
    (hK : ∀ vs : Array Value, (∀ σ w, VrL σ w z vs.toList) → oneL z = true → K (ac.put o.dst (.pointer (some ⟨w.heap.size, 0, none⟩))) (w.alloc (.cells vs t))) : wpOp P ops Q i K ac w := by
  have hg : o.guard = none := by
    unfold isAlloc at ha
    rw [hop] at ha
    cases hgd : o.guard with
    | none => rfl
    | some x => rw [hgd] at ha; cases ha
  obtain ⟨it, zv, za, hi, hzv, hza, hzf, _⟩ := zeroOf_spec hz
  have hv : ∀ σ w, VrL σ w z zv.cells.toList ∧ oneL z = true := fun σ w => (ofV_vr (σ := σ) (w := w) hza).flat hzf
  have hrun : (execOp ac.eval o).run P w = .ok (.value (.pointer (some ⟨w.heap.size, 0, none⟩))) (w.alloc (.cells zv.cells t)) := by
    have h1 : (Instr.alloc t true (.tuple #[])).run P w = .ok (.pointer (some ⟨w.heap.size, 0, none⟩)) (w.alloc (.cells zv.cells t)) := by
      simp only [Instr.alloc, Sem.run_bind, zeroValue_run hi hzv, Result.andThen_ok]
      rfl
    simp only [execOp, hop]
    simp [h1]
  unfold wpOp
  simp only [ho]
  have hw : Region.wanted o (yielded ops ac.tmps) = true := by unfold Region.wanted; rw [hg]
  rw [if_pos hw]
  refine .inl ?_
  unfold Oper.wp
  rw [hrun]
  exact hK _ (fun σ w => (hv σ w).1) (hv ⟨fun _ => none, fun _ => none, fun _ _ => False⟩ w).2

/-- All that the text's run tells of an open region. -/
structure Run (P : Program) (E : World → Prop) (base : Nat) (h : Hints) (pr : Prims) (f : FuncId) (ops : Array Oper) where
  A : Nat → AAct
  Hs : Nat → Heap
  v : Nat → AV
  m : Nat → Nat
  env : ∀ w w', E w → Below base w w' → E w'
  before : ∀ j o, ops[j]? = some o → (∀ e ∈ o.after, Region.binds .any e = true → e.on < j)
  pair : ∀ i j oi oj, ops[i]? = some oi → ops[j]? = some oj → i < j → ((beforeA ops).getD j 0).testBit i = true ∨ ((¬ (effectful oi = true ∧ effectful oj = true) ∨ isAlloc oj = true) ∧ oi.apart ops oj = true)
  floats : ∀ i j oi, ops[i]? = some oi → j < ops.size → i < j → isAlloc oi = true → ((beforeA ops).getD j 0).testBit i = true → ∀ e oe, e < i → ops[e]? = some oe → effectful oe = true → ((beforeA ops).getD j 0).testBit e = true
  place : ∀ k o, ops[k]? = some o → isAlloc o = true → ∃ t z, o.op = .alloc t ∧ zeroOf P t = some z ∧ v k = .ptr (Hs k).next 0 ∧ Hs (k + 1) = (Hs k).new (.cells z)
  put : ∀ i o, ops[i]? = some o → A (i + 1) = (A i).put o.dst (v i)
  same : ∀ i o a', ops[i]? = some o → Agree ops o (A i) a' → stepA P h pr (m i) f ops i a' (Hs i) = some (a'.put o.dst (v i), Hs (i + 1))
  quiet : ∀ i o, ops[i]? = some o → effectful o = false → Hs (i + 1) = Hs i
  other : ∀ i o j a', ops[i]? = some o → effectful o = false → j ≤ ops.size → Agree ops o (A i) a' →
    (∀ e oe, ops[e]? = some oe → effectful oe = true → ¬ (e < j ∧ ((beforeA ops).getD e 0).testBit i = true) ∧ ¬ (j ≤ e ∧ ((beforeA ops).getD i 0).testBit e = true)) →
    stepA P h pr (m i) f ops i a' (Hs j) = some (a'.put o.dst (v i), Hs j)
  ok : ∀ i a H a' H', stepA P h pr (m i) f ops i a H = some (a', H') → StepOk P E base ops i a H a' H'

section
variable {f : FuncId} {ops : Array Oper} (R : Run P E base h pr f ops)
def Run.dst (_ : Run P E base h pr f ops) (i : Nat) : Option Tmp := (ops[i]?).bind (·.dst)
def Run.eff (_ : Run P E base h pr f ops) (i : Nat) : Bool := ((ops[i]?).map effectful).getD false
def Run.al (_ : Run P E base h pr f ops) (i : Nat) : Bool := ((ops[i]?).map isAlloc).getD false

theorem Run.A_puts (k : Nat) : k ≤ ops.size → R.A k = puts R.dst R.v (fun _ => true) (R.A 0) k := by
  induction k with
  | zero => intro _; rfl
  | succ k ih =>
    intro hk
    have hlt : k < ops.size := by omega
    have ho : ops[k]? = some ops[k] := by simp [hlt]
    rw [R.put k _ ho, ih (by omega)]
    simp [puts, Run.dst, ho]
theorem Run.const {i : Nat} : ∀ j, j ≤ i → i ≤ ops.size → (∀ e, j ≤ e → e < i → R.eff e = false) → R.Hs i = R.Hs j := by
  induction i with
  | zero => intro j hj _ _; rw [Nat.le_zero.1 hj]
  | succ i ih =>
    intro j hj hi he
    by_cases hji : j = i + 1
    · rw [hji]
    · have hlt : i < ops.size := by omega
      have ho : ops[i]? = some ops[i] := by simp [hlt]
      have h1 := he i (by omega) (by omega)
      rw [R.quiet i _ ho (by simpa [Run.eff, ho] using h1)]
      exact ih j (by omega) (by omega) fun e h1 h2 => he e h1 (by omega)
theorem Run.eff_lt {i : Nat} (he : R.eff i = true) : ∃ hlt : i < ops.size, ops[i]? = some ops[i] ∧ effectful ops[i] = true := by
  unfold Run.eff at he
  cases ho : ops[i]? with
  | none => rw [ho] at he; cases he
  | some o =>
    have hlt := (Array.getElem?_eq_some_iff.1 ho).1
    have e : o = ops[i] := by rw [Array.getElem?_eq_getElem hlt] at ho; exact (Option.some.inj ho).symm
    rw [ho] at he
    subst e
    exact ⟨hlt, rfl, by simpa using he⟩
theorem Run.al_of {i : Nat} {o : Oper} (ho : ops[i]? = some o) : R.al i = isAlloc o := by simp [Run.al, ho]
theorem Run.eff_of {i : Nat} {o : Oper} (ho : ops[i]? = some o) : R.eff i = effectful o := by simp [Run.eff, ho]
theorem alloc_eff {o : Oper} (h : isAlloc o = true) : effectful o = true := by
  unfold isAlloc at h
  unfold effectful
  split at h
  · rename_i hop _; rw [hop]
  · cases h

/-- What is done for the abstract machine: what is listed, but for places that were made ahead of an effect. -/
def Run.D (p : Nat → Bool) (i : Nat) : Bool := p i && (!R.al i || (List.range i).all fun e => !R.eff e || p e)
def Closed (ops : Array Oper) (p : Nat → Bool) : Prop := ∀ j i, p j = true → ((beforeA ops).getD j 0).testBit i = true → p i = true
variable {R}
theorem Run.D_p {p : Nat → Bool} {i : Nat} (hd : R.D p i = true) : p i = true := by
  unfold Run.D at hd
  simp only [Bool.and_eq_true] at hd
  exact hd.1
theorem Run.D_al {p : Nat → Bool} {i : Nat} (hd : R.D p i = true) (ha : R.al i = true) {e : Nat} (he : e < i) (hee : R.eff e = true) : p e = true := by
  unfold Run.D at hd
  simp only [Bool.and_eq_true, ha, Bool.not_true, Bool.false_or, List.all_eq_true, List.mem_range] at hd
  have := hd.2 e he
  simpa [hee] using this
theorem Run.D_of {p : Nat → Bool} {i : Nat} (hp : p i = true) (hn : R.al i = true → ∀ e, e < i → R.eff e = true → p e = true) : R.D p i = true := by
  unfold Run.D
  simp only [Bool.and_eq_true, hp, true_and]
  cases ha : R.al i with
  | false => rfl
  | true =>
    simp only [Bool.not_true, Bool.false_or, List.all_eq_true, List.mem_range]
    intro e he
    cases hee : R.eff e with
    | false => rfl
    | true => simp [hn ha e he hee]
theorem Run.D_mono {p q : Nat → Bool} (hpq : ∀ j, p j = true → q j = true) {i : Nat} (hd : R.D p i = true) : R.D q i = true :=
  Run.D_of (hpq _ (Run.D_p hd)) fun ha e he hee => hpq _ (Run.D_al hd ha he hee)
theorem Run.D_not {p : Nat → Bool} {i : Nat} (hp : p i = true) (hd : R.D p i = false) : R.al i = true := by
  cases ha : R.al i with
  | true => rfl
  | false =>
    have := Run.D_of (R := R) hp (fun h => by rw [ha] at h; cases h)
    rw [this] at hd; cases hd

/-- All effects ahead of one that is done are done. -/
theorem Run.D_prefix {p : Nat → Bool} (hc : Closed ops p) {k : Nat} (hk : R.D p k = true) (hek : R.eff k = true) {e : Nat} (he : e < k) (hee : R.eff e = true) : R.D p e = true := by
  obtain ⟨hlk, hok, hefk⟩ := R.eff_lt hek
  obtain ⟨hle, hoe, hefe⟩ := R.eff_lt hee
  cases ha : R.al k with
  | true => exact Run.D_of (Run.D_al hk ha he hee) fun _ e' he' hee' => Run.D_al hk ha (by omega) hee'
  | false =>
    rcases R.pair e k _ _ hoe hok he with hb | ⟨hn | hn, _⟩
    · refine Run.D_of (hc k e (Run.D_p hk) hb) fun hae e' he' hee' => ?_
      obtain ⟨hle', hoe', hefe'⟩ := R.eff_lt hee'
      exact hc k e' (Run.D_p hk) (R.floats e k _ hoe hlk he (by rw [← R.al_of hoe]; exact hae) hb e' _ he' hoe' hefe')
    · exact absurd ⟨hefe, hefk⟩ hn
    · rw [R.al_of hok, hn] at ha; cases ha
/-- All effects ahead of one that comes next are done. -/
theorem Run.pred_done {p : Nat → Bool} {i : Nat} (hpred : ∀ j, ((beforeA ops).getD i 0).testBit j = true → p j = true) (hei : R.eff i = true) (hal : R.al i = true → ∀ e, e < i → R.eff e = true → p e = true)
    {e : Nat} (he : e < i) (hee : R.eff e = true) : R.D p e = true := by
  obtain ⟨hli, hoi, hefi⟩ := R.eff_lt hei
  obtain ⟨hle, hoe, hefe⟩ := R.eff_lt hee
  cases ha : R.al i with
  | true => exact Run.D_of (hal ha e he hee) fun _ e' he' hee' => hal ha e' (by omega) hee'
  | false =>
    rcases R.pair e i _ _ hoe hoi he with hb | ⟨hn | hn, _⟩
    · refine Run.D_of (hpred e hb) fun hae e' he' hee' => ?_
      obtain ⟨hle', hoe', hefe'⟩ := R.eff_lt hee'
      exact hpred e' (R.floats e i _ hoe hli he (by rw [← R.al_of hoe]; exact hae) hb e' _ he' hoe' hefe')
    · exact absurd ⟨hefe, hefi⟩ hn
    · rw [R.al_of hoi, hn] at ha; cases ha
variable (R)

/-- A place that was made ahead of its turn. -/
structure Spare (P : Program) (base : Nat) (w0 : World) (σ : Sim) (w : World) (ac : Act) (o : Oper) (g : Nat) : Prop where
  ty : ∃ t z vs, o.op = .alloc t ∧ zeroOf P t = some z ∧ w.heap[g]? = some (.cells vs t (0, 0)) ∧ VrL σ w z vs.toList ∧ oneL z = true
  lo : base ≤ g
  born : w0.heap.size ≤ g
  loose : Loose σ g
  reg : ∀ d, o.dst = some d → d < ac.tmps.size → ac.tmps[d]? = some (.pointer (some ⟨g, 0, none⟩))
theorem Spare.lt {w0 : World} {σ : Sim} {w : World} {ac : Act} {o : Oper} {g : Nat} (s : Spare P base w0 σ w ac o g) : g < w.heap.size := by
  obtain ⟨_, _, _, _, _, h, _⟩ := s.ty
  exact (Array.getElem?_eq_some_iff.1 h).1
theorem Spare.goes {w0 : World} {σ σ' : Sim} {w w' : World} {ac ac' : Act} {o : Oper} {g : Nat} (s : Spare P base w0 σ w ac o g) (hg : Goes base σ w σ' w') (hs : ac'.tmps.size = ac.tmps.size)
    (hr : ∀ d, o.dst = some d → ac'.tmps[d]? = ac.tmps[d]?) : Spare P base w0 σ' w' ac' o g := by
  obtain ⟨t, z, vs, h1, h2, h3, h4, h5⟩ := s.ty
  obtain ⟨f1, f2⟩ := hg.frame g s.lt s.loose
  exact ⟨⟨t, z, vs, h1, h2, f2.trans h3, h4.goes hg, h5⟩, s.lo, s.born, f1, fun d hd hlt => by rw [hr d hd]; exact s.reg d hd (hs ▸ hlt)⟩

def Run.J (B : Nat → Bool) (j : Nat) : AV := if B j then R.v j else .junk
/-- The state behind the operations that are listed, of which some are done for the abstract machine. -/
def Mid (E : World → Prop) (base : Nat) (σ0 : Sim) (w0 : World) (R : Run P E base h pr f ops) (p B : Nat → Bool) (ac : Act) (w : World) : Prop :=
  ∃ (σ : Sim) (G : Nat → Nat), ActR σ w (puts R.dst (R.J B) p (R.A 0) ops.size) ac ∧ Rep E base σ w (R.Hs (lastE R.eff B ops.size)) ∧ Goes base σ0 w0 σ w ∧
    (∀ i o, ops[i]? = some o → p i = true → B i = false → isAlloc o = true ∧ Spare P base w0 σ w ac o (G i)) ∧
    ∀ i j, i < ops.size → j < ops.size → p i = true → p j = true → B i = false → B j = false → G i = G j → i = j
structure Stand (E : World → Prop) (base : Nat) (σ0 : Sim) (w0 : World) (R : Run P E base h pr f ops) (p : Nat → Bool) (ac : Act) (w : World) : Prop where
  ex : Mid E base σ0 w0 R p (R.D p) ac w
  closed : Closed ops p

theorem Stand.agree {p : Nat → Bool} {i : Nat} {o : Oper} (ho : ops[i]? = some o) (hp : p i = false) (hc : Closed ops p)
    (hpred : ∀ j, ((beforeA ops).getD i 0).testBit j = true → p j = true) : Agree ops o (R.A i) (puts R.dst (R.J (R.D p)) p (R.A 0) ops.size) := by
  have hlt : i < ops.size := (Array.getElem?_eq_some_iff.1 ho).1
  refine ⟨by rw [R.A_puts i (by omega), puts_n, puts_n], fun t ht => ?_⟩
  have e1 : (R.A i).get t = (puts R.dst R.v (fun j => decide (j < i)) (R.A 0) ops.size).get t := by
    rw [R.A_puts i (by omega)]
    have cut : ∀ k, i ≤ k → puts R.dst R.v (fun j => decide (j < i)) (R.A 0) k = puts R.dst R.v (fun j => decide (j < i)) (R.A 0) i := by
      intro k
      induction k with
      | zero => intro hk; rw [Nat.le_zero.1 hk]
      | succ k ih =>
        intro hk
        by_cases hki : i = k + 1
        · rw [hki]
        · simp only [puts]
          rw [if_neg (by simp; omega)]
          exact ih (by omega)
    rw [cut _ (by omega)]
    exact puts_get _ _ _ _ _ _ _ fun j hj _ => by simp [hj]
  rw [e1]
  refine puts_get2 _ _ _ _ _ _ _ _ fun j hj hd => ?_
  have hoj : ops[j]? = some ops[j] := by simp [hj]
  have hdj : ops[j].dst = some t := by simpa [Run.dst, hoj] using hd
  by_cases hji : j < i
  · simp only [hji, decide_true]
    rcases R.pair j i _ _ hoj ho hji with hb | ⟨_, hap⟩
    · refine ⟨(hpred j hb).symm, fun _ => ?_⟩
      have hD : R.D p j = true := Run.D_of (hpred j hb) fun haj e he hee => by
        obtain ⟨hle, hoe, hefe⟩ := R.eff_lt hee
        exact hpred e (R.floats j i _ hoj hlt hji (by rw [← R.al_of hoj]; exact haj) hb e _ he hoe hefe)
      simp [Run.J, hD]
    · exact absurd ht ((oper_apart hap).1 t hdj).1
  · simp only [hji, decide_false]
    refine ⟨?_, fun h => by cases h⟩
    by_cases hij : j = i
    · rw [hij]; exact hp.symm
    · rcases R.pair i j _ _ ho hoj (by omega) with hb | ⟨_, hap⟩
      · cases hpj : p j with
        | false => rfl
        | true => exact absurd (hc j i hpj hb) (by simp [hp])
      · exact absurd ht ((oper_apart hap).2 t hdj)

theorem lastE_add (eff B : Nat → Bool) (k : Nat) (hk : eff k = true) (hb : ∀ e, k < e → eff e = true → B e = false) (n : Nat) (hn : k < n) : lastE eff (fun j => B j || j == k) n = k + 1 := by
  have h1 := lastE_lt eff (fun j => B j || j == k) n k hn hk (by simp)
  obtain ⟨e, he⟩ : ∃ e, lastE eff (fun j => B j || j == k) n = e + 1 := ⟨lastE eff (fun j => B j || j == k) n - 1, by omega⟩
  obtain ⟨h2, h3, h4⟩ := lastE_spec _ _ _ _ he
  by_cases hie : e = k
  · omega
  · have : B e = true := by simpa [hie] using h4
    rw [hb e (by omega) h3] at this; cases this
theorem lastE_at (eff B : Nat → Bool) (k n : Nat) (hk : B k = false) (hb : ∀ e, k < e → eff e = true → B e = false) : lastE eff B n ≤ k := by
  rcases Nat.lt_or_ge k (lastE eff B n) with hl | hl
  · obtain ⟨e, he⟩ : ∃ e, lastE eff B n = e + 1 := ⟨lastE eff B n - 1, by omega⟩
    obtain ⟨h1, h2, h3⟩ := lastE_spec _ _ _ _ he
    by_cases hie : e = k
    · subst hie; rw [hk] at h3; cases h3
    · rw [hb e (by omega) h2] at h3; cases h3
  · exact hl

theorem lastE_congr (eff : Nat → Bool) {B B' : Nat → Bool} {n : Nat} (h : ∀ j, j < n → B j = B' j) : ∀ k, k ≤ n → lastE eff B k = lastE eff B' k
  | 0, _ => rfl
  | k + 1, hk => by
    simp only [lastE]
    rw [lastE_congr eff h k (by omega), h k (by omega)]

/-- A place that was made takes its turn. -/
theorem Mid.promote {σ0 : Sim} {w0 : World} {p B : Nat → Bool} {ac : Act} {w : World} (M : Mid E base σ0 w0 R p B ac w) {k : Nat} {o : Oper} (ho : ops[k]? = some o) (hp : p k = true) (hB : B k = false)
    (hlo : ∀ e, e < k → R.eff e = true → B e = true) (hhi : ∀ e, k < e → R.eff e = true → B e = false)
    (hlast : ∀ j t, k < j → j < ops.size → p j = true → R.dst k = some t → R.dst j ≠ some t) : Mid E base σ0 w0 R p (fun j => B j || j == k) ac w := by
  obtain ⟨σ, G, ha, hr, hg, hsp, hinj⟩ := M
  have hlt : k < ops.size := (Array.getElem?_eq_some_iff.1 ho).1
  obtain ⟨hal, s⟩ := hsp k o ho hp hB
  obtain ⟨t, z, vs, h1, h2, h3, h4, h5⟩ := s.ty
  obtain ⟨t', z', h1', h2', h3', h4'⟩ := R.place k o ho hal
  rw [h1] at h1'; cases h1'
  rw [h2] at h2'; cases h2'
  have hek : R.eff k = true := by rw [R.eff_of ho]; exact alloc_eff hal
  have hle := lastE_at R.eff B k ops.size hB hhi
  have hH : R.Hs k = R.Hs (lastE R.eff B ops.size) := R.const _ hle (by omega) fun e h1 h2 => by
    cases hee : R.eff e with
    | false => rfl
    | true =>
      have := lastE_lt R.eff B ops.size e (by omega) hee (hlo e h2 hee)
      omega
  rw [← hH] at hr
  have hls := hr.le_newObj (G k) 0
  have hgo : Goes base σ0 w0 (σ.newObj (R.Hs k).next (G k) 0) w := ⟨hg.le.trans hls, hg.keeps, hg.below, fun x hx hL => ⟨(hg.frame x hx hL).1.newObj (by have := s.born; omega), (hg.frame x hx hL).2⟩⟩
  have hr' := hr.addObj (.cells z) (G k) 0 s.lt (fun b c _ hφ => s.loose.φ b c hφ) (fun t x _ hT => s.loose.T t x hT) ⟨s.lo, vs, t, h3, h4.mono hls (.refl _ _), h5, fun j hj => s.loose.G j hj⟩
  refine ⟨_, G, ⟨?_, fun d hd => ?_, ha.defers⟩, ?_, hgo, fun i o' ho' hpi hBi => ?_, fun i j hi hj hpi hpj hBi hBj => ?_⟩
  · have := ha.size
    rw [puts_n] at this ⊢
    exact this
  · have hd0 : d < (R.A 0).n := by rw [puts_n] at hd; exact hd
    have hds : d < ac.tmps.size := by have := ha.size; rw [puts_n] at this; omega
    by_cases hdk : R.dst k = some d
    · rw [puts_last R.dst _ p (R.A 0) d k hp hdk hd0 ops.size hlt (fun j h1 h2 h3 => hlast j d h1 h2 h3 hdk)]
      have e1 : R.J (fun j => B j || j == k) k = .ptr (R.Hs k).next 0 := by simp [Run.J, h3']
      rw [e1]
      have hdo : o.dst = some d := by simpa [Run.dst, ho] using hdk
      have := s.reg d hdo hds
      rw [Array.getD_eq_getD_getElem?, this]
      exact .ptr (cap := 0) (by simp [Sim.newObj])
    · have e1 : (puts R.dst (R.J fun j => B j || j == k) p (R.A 0) ops.size).get d = (puts R.dst (R.J B) p (R.A 0) ops.size).get d := puts_get2 _ _ _ _ _ _ _ _ fun j hj hdj => by
        refine ⟨rfl, fun _ => ?_⟩
        have hjk : (j == k) = false := by
          rw [beq_eq_false_iff_ne]
          intro e
          subst e
          exact hdk hdj
        simp [Run.J, hjk]
      rw [e1]
      exact (ha.get d (by rw [puts_n]; exact hd0)).mono hls (.refl _ _)
  · rw [lastE_add R.eff B k hek hhi ops.size hlt, h4']
    exact hr'
  · simp only [Bool.or_eq_false_iff, beq_eq_false_iff_ne, ne_eq] at hBi
    obtain ⟨hali, si⟩ := hsp i o' ho' hpi hBi.1
    obtain ⟨t, z, vs, g1, g2, g3, g4, g5⟩ := si.ty
    have hli : i < ops.size := (Array.getElem?_eq_some_iff.1 ho').1
    exact ⟨hali, ⟨t, z, vs, g1, g2, g3, g4.mono hls (.refl _ _), g5⟩, si.lo, si.born, si.loose.newObj (fun e => hBi.2 (hinj i k hli hlt hpi hp hBi.1 hB e)), si.reg⟩
  · simp only [Bool.or_eq_false_iff, beq_eq_false_iff_ne, ne_eq] at hBi hBj
    exact hinj i j hi hj hpi hpj hBi.1 hBj.1

theorem Stand.step {σ0 : Sim} {w0 : World} {p : Nat → Bool} {ac : Act} {w : World} (S : Stand E base σ0 w0 R p ac w) {i : Nat} {o : Oper} (ho : ops[i]? = some o) (hp : p i = false)
    (hpred : ∀ e ∈ o.after, Region.binds .any e = true → p e.on = true) {Q : Exit → Act → World → Prop} {K : Act → World → Prop}
    (hK : ∀ ac' w', Stand E base σ0 w0 R (fun j => p j || j == i) ac' w' → K ac' w') : wpOp P ops Q i K ac w := by
  have hlt : i < ops.size := (Array.getElem?_eq_some_iff.1 ho).1
  have hpred' : ∀ j, ((beforeA ops).getD i 0).testBit j = true → p j = true := fun j hj => by
    obtain ⟨e, he, hb, hc⟩ := before_spec ho hj
    rcases hc with hc | hc
    · rw [← hc]; exact hpred e he hb
    · exact S.closed e.on j (hpred e he hb) hc
  have hclosed : Closed ops (fun j => p j || j == i) := fun j k hj hk => by
    simp only [Bool.or_eq_true, beq_iff_eq] at hj ⊢
    rcases hj with hj | hj
    · exact .inl (S.closed j k hj hk)
    · subst hj; exact .inl (hpred' k hk)
  obtain ⟨σ, G, ha, hr, hg, hsp, hinj⟩ := S.ex
  -- of two of which neither waits for the other
  have later : ∀ j t, i < j → j < ops.size → p j = true → R.dst i = some t → R.dst j ≠ some t := fun j t hij hj hpj hd => by
    have hoj : ops[j]? = some ops[j] := by simp [hj]
    rcases R.pair i j _ _ ho hoj hij with hb | ⟨_, hap⟩
    · exact absurd (S.closed j i hpj hb) (by simp [hp])
    · have : o.dst = some t := by simpa [Run.dst, ho] using hd
      have := ((oper_apart hap).1 t this).2
      simpa [Run.dst, hoj] using this
  by_cases hearly : R.al i = true ∧ ∃ e, e < i ∧ R.eff e = true ∧ p e = false
  · -- a place that is made ahead of its turn
    obtain ⟨hal, e0, he0, hee0, hpe0⟩ := hearly
    have halo : isAlloc o = true := by rw [← R.al_of ho]; exact hal
    obtain ⟨t, z, h1, h2, h3, h4⟩ := R.place i o ho halo
    refine alloc_real ho halo h1 h2 fun vs hvs hz1 => hK _ _ ⟨?_, hclosed⟩
    have hgr := grownBy_alloc w (.cells vs t)
    obtain ⟨hr2, hg2⟩ := hr.grow R.env hgr
    have hDi : R.D (fun j => p j || j == i) i = false := by
      cases hd : R.D (fun j => p j || j == i) i with
      | false => rfl
      | true =>
        have := Run.D_al hd hal he0 hee0
        have hne : (e0 == i) = false := by rw [beq_eq_false_iff_ne]; omega
        simp [hpe0, hne] at this
    have hDj : ∀ j, j ≠ i → R.D (fun j => p j || j == i) j = R.D p j := fun j hji => by
      have hjf : (j == i) = false := by rw [beq_eq_false_iff_ne]; exact hji
      cases hd : R.D p j with
      | true => exact Run.D_mono (fun k hk => by simp [hk]) hd
      | false =>
        cases hq : R.D (fun j => p j || j == i) j with
        | false => rfl
        | true =>
          have hpj : p j = true := by simpa [hjf] using Run.D_p hq
          have haj := Run.D_not hpj hd
          have : R.D p j = true := Run.D_of hpj fun _ e he hee => by
            by_cases hei : e = i
            · subst hei
              have := Run.D_al hq haj (e := e0) (by omega) hee0
              have hne : (e0 == e) = false := by rw [beq_eq_false_iff_ne]; omega
              simp [hpe0, hne] at this
            · have := Run.D_al hq haj he hee
              have hne : (e == i) = false := by rw [beq_eq_false_iff_ne]; exact hei
              simpa [hne] using this
          rw [this] at hd; cases hd
    have hDp : R.D p i = false := by
      cases hd : R.D p i with
      | false => rfl
      | true => have := Run.D_p hd; rw [hp] at this; cases this
    have hDe : R.D (fun j => p j || j == i) = R.D p := funext fun j => by
      by_cases hji : j = i
      · rw [hji, hDi, hDp]
      · exact hDj j hji
    have hsz : (ac.put o.dst (.pointer (some ⟨w.heap.size, 0, none⟩))).tmps.size = ac.tmps.size := by
      cases o.dst <;> simp [Act.put]
    have hadd : puts R.dst (R.J (R.D p)) (fun j => p j || j == i) (R.A 0) ops.size = (puts R.dst (R.J (R.D p)) p (R.A 0) ops.size).put o.dst .junk := by
      have := puts_add R.dst (R.J (R.D p)) p (R.A 0) i hp ops.size hlt later
      rw [this]
      simp [Run.dst, ho, Run.J, hDp]
    refine ⟨σ, fun j => if j = i then w.heap.size else G j, ?_, ?_, hg.trans hg2, fun j o' ho' hpj hBj => ?_, fun j k hj hk hpj hpk hBj hBk hG => ?_⟩
    · rw [hDe, hadd]
      exact (ha.goes hg2).put .junk _
    · rw [hDe]; exact hr2
    · rw [hDe] at hBj
      by_cases hji : j = i
      · subst hji
        rw [ho] at ho'; cases ho'
        refine ⟨halo, ?_⟩
        simp only [if_true]
        refine ⟨⟨t, z, vs, h1, h2, heap_alloc_new w _, hvs _ _, hz1⟩, hr.baseLe, hg.below.size, ⟨fun b c hφ => by have := (hr.freshφ b _ c hφ).2; omega, fun t x hT => by have := (hr.freshT t _ x hT).2; omega, fun j hG => by have := hr.freshG _ j hG; omega⟩, fun d hd hl => ?_⟩
        rw [hd]
        simp only [Act.put]
        rw [hsz] at hl
        simp [hl]
      · have hjf : (j == i) = false := by rw [beq_eq_false_iff_ne]; exact hji
        have hpj' : p j = true := by simpa [hjf] using hpj
        obtain ⟨hali, si⟩ := hsp j o' ho' hpj' hBj
        refine ⟨hali, ?_⟩
        simp only [if_neg hji]
        refine si.goes hg2 hsz fun d hd => act_other ac _ _ d fun hdo => ?_
        -- two places' slots
        have hjl : j < ops.size := (Array.getElem?_eq_some_iff.1 ho').1
        rcases Nat.lt_or_ge j i with hji' | hji'
        · rcases R.pair j i _ _ ho' ho hji' with hb | ⟨_, hap⟩
          · have := R.floats j i _ ho' hlt hji' hali hb
            have : R.D p j = true := Run.D_of hpj' fun _ e he hee => by
              obtain ⟨hle, hoe, hefe⟩ := R.eff_lt hee
              exact hpred' e (this e _ he hoe hefe)
            rw [this] at hBj; cases hBj
          · exact ((oper_apart hap).1 d hd).2 hdo
        · exact later j d (by omega) hjl hpj' (by simpa [Run.dst, ho] using hdo) (by simpa [Run.dst, ho'] using hd)
    · rw [hDe] at hBj hBk
      by_cases hji : j = i <;> by_cases hki : k = i
      · rw [hji, hki]
      · simp only [if_pos hji, if_neg hki] at hG
        have hkf : (k == i) = false := by rw [beq_eq_false_iff_ne]; exact hki
        have hok : ops[k]? = some ops[k] := by simp [hk]
        have := (hsp k _ hok (by simpa [hkf] using hpk) hBk).2.lt
        omega
      · simp only [if_neg hji, if_pos hki] at hG
        have hjf : (j == i) = false := by rw [beq_eq_false_iff_ne]; exact hji
        have hoj : ops[j]? = some ops[j] := by simp [hj]
        have := (hsp j _ hoj (by simpa [hjf] using hpj) hBj).2.lt
        omega
      · simp only [if_neg hji, if_neg hki] at hG
        have hjf : (j == i) = false := by rw [beq_eq_false_iff_ne]; exact hji
        have hkf : (k == i) = false := by rw [beq_eq_false_iff_ne]; exact hki
        exact hinj j k hj hk (by simpa [hjf] using hpj) (by simpa [hkf] using hpk) hBj hBk hG
  · -- it takes its turn
    have hal : R.al i = true → ∀ e, e < i → R.eff e = true → p e = true := fun h1 e h2 h3 => by
      cases h4 : p e with
      | true => rfl
      | false => exact absurd ⟨h1, e, h2, h3, h4⟩ hearly
    have hagree := Stand.agree R ho hp S.closed hpred'
    have hDp : R.D p i = false := by
      cases hd : R.D p i with
      | false => rfl
      | true => have := Run.D_p hd; rw [hp] at this; cases this
    have hadd : puts R.dst (R.J fun j => R.D p j || j == i) (fun j => p j || j == i) (R.A 0) ops.size = (puts R.dst (R.J (R.D p)) p (R.A 0) ops.size).put o.dst (R.v i) := by
      have e1 : puts R.dst (R.J fun j => R.D p j || j == i) p (R.A 0) ops.size = puts R.dst (R.J (R.D p)) p (R.A 0) ops.size :=
        AAct.ext' (by rw [puts_n, puts_n]) fun t => puts_get2 _ _ _ _ _ _ _ _ fun j hj _ => ⟨rfl, fun hpj => by
          have hji : (j == i) = false := by
            rw [beq_eq_false_iff_ne]
            intro e
            subst e
            rw [hp] at hpj; cases hpj
          simp [Run.J, hji]⟩
      have := puts_add R.dst (R.J fun j => R.D p j || j == i) p (R.A 0) i hp ops.size hlt later
      rw [this, e1]
      simp [Run.dst, ho, Run.J]
    -- what stands behind the operation itself
    have main : ∀ ac' w' σ', ActR σ' w' ((puts R.dst (R.J (R.D p)) p (R.A 0) ops.size).put o.dst (R.v i)) ac' → Rep E base σ' w' (R.Hs (lastE R.eff (fun j => R.D p j || j == i) ops.size)) → Goes base σ w σ' w' →
        (∀ t, (ops[i]?).bind (·.dst) ≠ some t → ac'.tmps[t]? = ac.tmps[t]?) → Stand E base σ0 w0 R (fun j => p j || j == i) ac' w' := by
      intro ac' w' σ' ha' hr' hg' hsame
      have M0 : Mid E base σ0 w0 R (fun j => p j || j == i) (fun j => R.D p j || j == i) ac' w' := by
        have hsz : ac'.tmps.size = ac.tmps.size := by
          have h1 := ha'.size
          have h2 := ha.size
          rw [put_n] at h1
          omega
        refine ⟨σ', G, by rw [hadd]; exact ha', hr', hg.trans hg', fun j o' ho' hpj hBj => ?_, fun j k hj hk hpj hpk hBj hBk => ?_⟩
        · simp only [Bool.or_eq_false_iff] at hBj
          have hpj' : p j = true := by simpa [hBj.2] using hpj
          obtain ⟨hali, si⟩ := hsp j o' ho' hpj' hBj.1
          refine ⟨hali, si.goes hg' hsz fun d hd => hsame d fun hdo => ?_⟩
          have hji : j ≠ i := by simpa using hBj.2
          have hdo' : o.dst = some d := by simpa [ho] using hdo
          have hjl : j < ops.size := (Array.getElem?_eq_some_iff.1 ho').1
          rcases Nat.lt_or_ge j i with hji' | hji'
          · rcases R.pair j i _ _ ho' ho hji' with hb | ⟨_, hap⟩
            · have := R.floats j i _ ho' hlt hji' hali hb
              have : R.D p j = true := Run.D_of hpj' fun _ e he hee => by
                obtain ⟨hle, hoe, hefe⟩ := R.eff_lt hee
                exact hpred' e (this e _ he hoe hefe)
              rw [this] at hBj; cases hBj.1
            · exact ((oper_apart hap).1 d hd).2 hdo'
          · exact later j d (by omega) hjl hpj' (by simpa [Run.dst, ho] using hdo') (by simpa [Run.dst, ho'] using hd)
        · simp only [Bool.or_eq_false_iff] at hBj hBk
          exact hinj j k hj hk (by simpa [hBj.2] using hpj) (by simpa [hBk.2] using hpk) hBj.1 hBk.1
      -- places that were made ahead take their turn
      have up : ∀ k, k ≤ ops.size → Mid E base σ0 w0 R (fun j => p j || j == i) (fun j => (R.D p j || j == i) || (decide (j < k) && R.D (fun j => p j || j == i) j)) ac' w' := by
        intro k
        induction k with
        | zero =>
          intro _
          have : (fun j => (R.D p j || j == i) || (decide (j < 0) && R.D (fun j => p j || j == i) j)) = fun j => R.D p j || j == i := funext fun j => by simp
          rw [this]; exact M0
        | succ k ih =>
          intro hk
          have M := ih (by omega)
          have hok : ops[k]? = some ops[k] := by simp [show k < ops.size by omega]
          by_cases hskip : R.D (fun j => p j || j == i) k = true ∧ (R.D p k || k == i) = false
          · obtain ⟨hq, hB⟩ := hskip
            have hB2 : R.D p k = false ∧ (k == i) = false := by simpa using hB
            have hki : k ≠ i := by simpa using hB2.2
            have hpk : p k = true := by simpa [hB2.2] using Run.D_p hq
            have hak : R.al k = true := Run.D_not hpk hB2.1
            have hako : isAlloc ops[k] = true := by rw [← R.al_of hok]; exact hak
            have hek : R.eff k = true := by rw [R.eff_of hok]; exact alloc_eff hako
            have hhi : ∀ e, k < e → R.eff e = true → (R.D p e || e == i) = false := fun e hke hee => by
              cases hde : R.D p e with
              | true => have := Run.D_prefix S.closed hde hee hke hek; rw [this] at hB2; cases hB2.1
              | false =>
                rw [Bool.false_or, beq_eq_false_iff_ne]
                intro he
                subst he
                have := Run.pred_done hpred' hee hal hke hek
                rw [this] at hB2; cases hB2.1
            have M' := Mid.promote R M hok (by simp [hpk]) (by simp [hB2.1, hB2.2]) (fun e he hee => by
                have := Run.D_prefix hclosed hq hek he hee
                simp [he, this]) (fun e hke hee => by
                have h1 := hhi e hke hee
                have h2 : decide (e < k) = false := by simp; omega
                rw [h1, h2]; rfl) (fun j t hkj hj hpj hd hdj => by
                have hoj : ops[j]? = some ops[j] := by simp [hj]
                rcases R.pair k j _ _ hok hoj hkj with hb | ⟨_, hap⟩
                · have hf := R.floats k j _ hok hj hkj hako hb
                  have : R.D p k = true := Run.D_of hpk fun _ e he hee => by
                    obtain ⟨hle, hoe, hefe⟩ := R.eff_lt hee
                    have hbe := hf e _ he hoe hefe
                    by_cases hji : j = i
                    · subst hji; exact hpred' e hbe
                    · have hjf : (j == i) = false := by rw [beq_eq_false_iff_ne]; exact hji
                      exact S.closed j e (by simpa [hjf] using hpj) hbe
                  rw [this] at hB2; cases hB2.1
                · have h1 : ops[k].dst = some t := by simpa [Run.dst, hok] using hd
                  exact ((oper_apart hap).1 t h1).2 (by simpa [Run.dst, hoj] using hdj))
            have e : (fun j => (R.D p j || j == i) || (decide (j < k + 1) && R.D (fun j => p j || j == i) j)) = fun j => ((R.D p j || j == i) || (decide (j < k) && R.D (fun j => p j || j == i) j)) || j == k := funext fun j => by
              by_cases hjk : j = k
              · subst hjk; simp [hq]
              · have h1 : (j == k) = false := by rw [beq_eq_false_iff_ne]; exact hjk
                have h2 : decide (j < k + 1) = decide (j < k) := by rw [Bool.eq_iff_iff]; simp; omega
                rw [h1, h2, Bool.or_false]
            rw [e]; exact M'
          · have e : (fun j => (R.D p j || j == i) || (decide (j < k + 1) && R.D (fun j => p j || j == i) j)) = fun j => (R.D p j || j == i) || (decide (j < k) && R.D (fun j => p j || j == i) j) := funext fun j => by
              by_cases hjk : j = k
              · subst hjk
                cases hq : R.D (fun j => p j || j == i) j with
                | false => simp
                | true =>
                  cases hB : (R.D p j || j == i) with
                  | true => rfl
                  | false => exact absurd ⟨hq, hB⟩ hskip
              · have h2 : decide (j < k + 1) = decide (j < k) := by rw [Bool.eq_iff_iff]; simp; omega
                rw [h2]
            rw [e]; exact M
      have hfin := up ops.size (Nat.le_refl _)
      have e : ∀ j, j < ops.size → ((R.D p j || j == i) || (decide (j < ops.size) && R.D (fun j => p j || j == i) j)) = R.D (fun j => p j || j == i) j := fun j hj => by
        simp only [hj, decide_true, Bool.true_and]
        cases hq : R.D (fun j => p j || j == i) j with
        | true => simp
        | false =>
          rw [Bool.or_false]
          cases hd : R.D p j with
          | true => have := Run.D_mono (R := R) (q := fun j => p j || j == i) (fun k hk => by simp [hk]) hd; rw [this] at hq; cases hq
          | false =>
            rw [Bool.false_or, beq_eq_false_iff_ne]
            intro e
            subst e
            have : R.D (fun k => p k || k == j) j = true := Run.D_of (by simp) fun ha e he hee => by simp [hal ha e he hee]
            rw [this] at hq; cases hq
      refine ⟨?_, hclosed⟩
      obtain ⟨σ2, G2, a2, r2, g2, s2, i2⟩ := hfin
      have eL : ∀ k, k ≤ ops.size → lastE R.eff (fun j => (R.D p j || j == i) || (decide (j < ops.size) && R.D (fun j => p j || j == i) j)) k = lastE R.eff (R.D fun j => p j || j == i) k := lastE_congr _ e
      refine ⟨σ2, G2, ?_, ?_, g2, fun j o' ho' hpj hBj => s2 j o' ho' hpj ((e j (Array.getElem?_eq_some_iff.1 ho').1).trans hBj), fun j k hj hk hpj hpk hBj hBk => i2 j k hj hk hpj hpk ((e j hj).trans hBj) ((e k hk).trans hBk)⟩
      · have : puts R.dst (R.J (R.D fun j => p j || j == i)) (fun j => p j || j == i) (R.A 0) ops.size = puts R.dst (R.J fun j => (R.D p j || j == i) || (decide (j < ops.size) && R.D (fun j => p j || j == i) j)) (fun j => p j || j == i) (R.A 0) ops.size :=
          AAct.ext' (by rw [puts_n, puts_n]) fun t => puts_get2 _ _ _ _ _ _ _ _ fun j hj _ => ⟨rfl, fun _ => by
            have := e j hj
            simp only [Run.J, this]⟩
        rw [this]; exact a2
      · rw [← eL ops.size (Nat.le_refl _)]; exact r2
    cases hef : effectful o with
    | true =>
      have heff : R.eff i = true := by rw [R.eff_of ho]; exact hef
      have hbef : ∀ e, e < i → R.eff e = true → R.D p e = true := fun e hei hee => Run.pred_done hpred' heff hal hei hee
      have hbeh : ∀ e, i < e → R.eff e = true → R.D p e = false := fun e hei hee => by
        cases hde : R.D p e with
        | false => rfl
        | true => have := Run.D_prefix S.closed hde hee hei heff; rw [this] at hDp; cases hDp
      have hle := lastE_at R.eff (R.D p) i ops.size hDp hbeh
      have hH : R.Hs i = R.Hs (lastE R.eff (R.D p) ops.size) := R.const _ hle (by omega) fun e h1 h2 => by
        cases hee : R.eff e with
        | false => rfl
        | true =>
          have := lastE_lt R.eff (R.D p) ops.size e (by omega) hee (hbef e h2 hee)
          omega
      rw [← hH] at hr
      have hst := R.same i o _ ho hagree
      refine R.ok i _ _ _ _ hst σ w ac Q K hr ha fun σ' w' ac' h1 h2 h3 h4 => hK ac' w' (main ac' w' σ' h1 ?_ h3 h4)
      rw [lastE_add R.eff (R.D p) i heff hbeh ops.size hlt]; exact h2
    | false =>
      have heff : R.eff i = false := by rw [R.eff_of ho]; exact hef
      have hst := R.other i o (lastE R.eff (R.D p) ops.size) _ ho hef (lastE_le _ _ _) hagree (fun e oe hoe hee => by
        have hel : e < ops.size := (Array.getElem?_eq_some_iff.1 hoe).1
        have hee' : R.eff e = true := by rw [R.eff_of hoe]; exact hee
        refine ⟨fun ⟨hel', hb⟩ => ?_, fun ⟨hel', hb⟩ => ?_⟩
        · obtain ⟨e2, he2⟩ : ∃ e2, lastE R.eff (R.D p) ops.size = e2 + 1 := ⟨lastE R.eff (R.D p) ops.size - 1, by omega⟩
          obtain ⟨h1, h2, h3⟩ := lastE_spec _ _ _ _ he2
          have hpe : R.D p e = true := by
            by_cases hee2 : e = e2
            · rw [hee2]; exact h3
            · exact Run.D_prefix S.closed h3 h2 (by omega) hee'
          exact absurd (S.closed e i (Run.D_p hpe) hb) (by simp [hp])
        · have hpe := hpred' e hb
          have hde : R.D p e = true := Run.D_of hpe fun hae e' he' hee'' => by
            obtain ⟨hle', hoe', hefe'⟩ := R.eff_lt hee''
            have hei : e < i := by
              rcases Nat.lt_or_ge e i with h | h
              · exact h
              · exfalso
                exact absurd (before_lt R.before ho hb) (by omega)
            exact hpred' e' (R.floats e i _ hoe hlt hei (by rw [← R.al_of hoe]; exact hae) hb e' _ he' hoe' hefe')
          have := lastE_lt R.eff (R.D p) ops.size e hel hee' hde
          omega)
      refine R.ok i _ _ _ _ hst σ w ac Q K hr ha fun σ' w' ac' h1 h2 h3 h4 => hK ac' w' (main ac' w' σ' h1 ?_ h3 h4)
      have hl' : ∀ k, lastE R.eff (fun j => R.D p j || j == i) k = lastE R.eff (R.D p) k := by
        intro k
        induction k with
        | zero => rfl
        | succ k ih =>
          simp only [lastE, ih]
          by_cases hki : k = i
          · subst hki; simp [heff]
          · have : (k == i) = false := by simpa using hki
            simp [this]
      rw [hl']; exact h2

theorem Stand.all {σ0 : Sim} {w0 : World} {Q : Exit → Act → World → Prop} (hQ : ∀ σ' w' ac', ActR σ' w' (R.A ops.size) ac' → Rep E base σ' w' (R.Hs ops.size) → Goes base σ0 w0 σ' w' → Q .normal ac' w') :
    ∀ (fuel : Nat) (listed : Array Bool) (ac : Act) (w : World), listed.size = ops.size → Stand E base σ0 w0 R (fun j => listed.getD j false) ac w → (fuel = 0 → ∀ j, j < ops.size → listed.getD j false = true) →
      (listed.toList.filter (fun b => !b)).length ≤ fuel → wpAny P .any ops Q fuel listed ac w := by
  have done : ∀ (listed : Array Bool) (ac : Act) (w : World), listed.size = ops.size → Stand E base σ0 w0 R (fun j => listed.getD j false) ac w → (∀ j, j < ops.size → listed.getD j false = true) → Q .normal ac w := by
    intro listed ac w hsz S hall
    obtain ⟨σ, G, ha, hr, hg, _, _⟩ := S.ex
    have hD : ∀ j, j < ops.size → R.D (fun j => listed.getD j false) j = true := fun j hj => Run.D_of (hall j hj) fun _ e he _ => hall e (by omega)
    have e1 : puts R.dst (R.J (R.D fun j => listed.getD j false)) (fun j => listed.getD j false) (R.A 0) ops.size = R.A ops.size := by
      rw [R.A_puts _ (Nat.le_refl _)]
      refine AAct.ext' (by rw [puts_n, puts_n]) fun t => puts_get2 _ _ _ _ _ _ _ _ fun j hj _ => ⟨by simpa using hall j hj, fun _ => by unfold Run.J; rw [if_pos (hD j hj)]⟩
    have e2 : R.Hs ops.size = R.Hs (lastE R.eff (R.D fun j => listed.getD j false) ops.size) := R.const _ (lastE_le _ _ _) (Nat.le_refl _) fun e h1 h2 => by
      cases hee : R.eff e with
      | false => rfl
      | true =>
        have := lastE_lt R.eff (R.D fun j => listed.getD j false) ops.size e h2 hee (hD e h2)
        omega
    rw [e1] at ha
    rw [← e2] at hr
    exact hQ σ w ac ha hr hg
  intro fuel
  induction fuel with
  | zero =>
    intro listed ac w hsz S h0 _
    have hall := h0 rfl
    refine ⟨?_, done listed ac w hsz S hall⟩
    cases hr : Region.ready .any ops listed with
    | nil => rfl
    | cons x xs =>
      have : x ∈ Region.ready .any ops listed := by rw [hr]; simp
      obtain ⟨hun, o, ho, _⟩ := mem_ready.1 this
      have hlt : x < ops.size := (Array.getElem?_eq_some_iff.1 ho).1
      have := hall x hlt
      simp [hsz ▸ hlt] at hun this
      rw [hun] at this; cases this
  | succ fuel ih =>
    intro listed ac w hsz S _ hcount
    refine ⟨fun hr => ?_, fun i hi => ?_⟩
    · -- nothing is ready: all are listed
      refine done listed ac w hsz S ?_
      have key : ∀ n j, j ≤ n → j < ops.size → listed.getD j false = true := by
        intro n
        induction n with
        | zero =>
          intro j hj hlt
          cases hl : listed.getD j false with
          | true => rfl
          | false =>
            have ho : ops[j]? = some ops[j] := by simp [hlt]
            have : j ∈ Region.ready .any ops listed := mem_ready.2 ⟨by simp [hsz ▸ hlt] at hl ⊢; exact hl, _, ho, fun e he hb => by have := R.before j _ ho e he hb; omega⟩
            rw [hr] at this; cases this
        | succ n ihn =>
          intro j hj hlt
          by_cases hjn : j ≤ n
          · exact ihn j hjn hlt
          · cases hl : listed.getD j false with
            | true => rfl
            | false =>
              have ho : ops[j]? = some ops[j] := by simp [hlt]
              have : j ∈ Region.ready .any ops listed := mem_ready.2 ⟨by simp [hsz ▸ hlt] at hl ⊢; exact hl, _, ho, fun e he hb => by have := R.before j _ ho e he hb; exact ihn e.on (by omega) (by omega)⟩
              rw [hr] at this; cases this
      exact fun j hlt => key j j (Nat.le_refl _) hlt
    · obtain ⟨hun, o, ho, hall⟩ := mem_ready.1 hi
      have hlt : i < ops.size := (Array.getElem?_eq_some_iff.1 ho).1
      have hli : i < listed.size := hsz ▸ hlt
      have hpi : listed.getD i false = false := by simp [hli] at hun ⊢; exact hun
      refine S.step R ho hpi hall fun ac' w' S' => ?_
      have hset : ∀ j, (listed.setIfInBounds i true).getD j false = (listed.getD j false || j == i) := fun j => by
        by_cases hji : j = i
        · subst hji; simp [hli]
        · rw [getD_set_ne false (Ne.symm hji)]
          have : (j == i) = false := by simpa using hji
          simp [this]
      have S'' : Stand E base σ0 w0 R (fun j => (listed.setIfInBounds i true).getD j false) ac' w' := by
        have e : (fun j => (listed.setIfInBounds i true).getD j false) = fun j => (listed.getD j false || j == i) := funext hset
        rw [e]; exact S'
      have hcnt : ((listed.setIfInBounds i true).toList.filter (fun b => !b)).length + 1 ≤ (listed.toList.filter (fun b => !b)).length := by
        have hget : listed.toList[i]? = some false := by
          rw [Array.getElem?_toList]
          simp [hli] at hun ⊢; exact hun
        rw [Array.toList_setIfInBounds]
        exact filter_set _ _ hget
      have hsz' : (listed.setIfInBounds i true).size = ops.size := by simpa using hsz
      refine ih _ ac' w' hsz' S'' (fun h0 j hj => ?_) (by omega)
      subst h0
      have hnil : (listed.setIfInBounds i true).toList.filter (fun b => !b) = [] := List.eq_nil_of_length_eq_zero (by omega)
      have hjl : j < (listed.setIfInBounds i true).size := by omega
      rw [List.filter_eq_nil_iff] at hnil
      have := hnil ((listed.setIfInBounds i true)[j]) (Array.mem_toList_iff.2 (Array.getElem_mem hjl))
      rw [Array.getD_eq_getD_getElem?, Array.getElem?_eq_getElem hjl]
      simpa using this
end
end
end Go.AM
