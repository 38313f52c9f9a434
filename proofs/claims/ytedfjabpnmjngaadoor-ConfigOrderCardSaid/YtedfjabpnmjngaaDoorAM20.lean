/- What a proof steps through: a weakest condition over the abstract machine's code, without fuel. -/
import Derived.Test.YtedfjabpnmjngaaDoorAM1
set_option linter.unusedSimpArgs false
set_option linter.unusedVariables false
namespace Go.AM
open Go

/-- From some fuel on. -/
def Ev {α : Type} (F : Nat → Option α) (r : α) : Prop := ∃ n, ∀ m, n ≤ m → F m = some r

/-- A sign that what it stands for is left as it is. -/
inductive Tok {α : Sort _} (a : α) : Type where
  | mk

/-- The first, then the rest. -/
def Bd {α : Type} (o : Option α) (k : α → Prop) (_ : Tok k) : Prop := ∃ v, o = some v ∧ k v
theorem Bd_some {α : Type} (v : α) (k : α → Prop) : Bd (some v) k .mk = k v := by
  simp [Bd]

/-- Two ways, by a bool. -/
def Gd (c : Bool) (x y : Prop) (_ : Tok x) (_ : Tok y) : Prop := match c with | true => x | false => y
theorem Gd_true (x y : Prop) : Gd true x y .mk .mk = x := rfl
theorem Gd_false (x y : Prop) : Gd false x y .mk .mk = y := rfl
theorem Gd_not (c : Bool) (x y : Prop) : Gd (!c) x y .mk .mk = Gd c y x .mk .mk := by cases c <;> rfl
theorem beqT (c : Bool) : (c == true) = c := by cases c <;> rfl
theorem beqF (c : Bool) : (c == false) = !c := by cases c <;> rfl
theorem Gd_of {c : Bool} {x y : Prop} (ht : c = true → x) (hf : c = false → y) : Gd c x y .mk .mk := by
  cases c
  · exact hf rfl
  · exact ht rfl

abbrev Regs := Nat → AV
def upd (g : Regs) (d : Nat) (v : AV) : Regs := fun x => if x = d then v else g x
theorem upd_at (g : Regs) (d : Nat) (v : AV) (t : Nat) : upd g d v t = if t = d then v else g t := rfl
theorem upd_same (g : Regs) (d : Nat) (v : AV) : upd g d v d = v := if_pos rfl
theorem upd_ne (g : Regs) (d : Nat) (v : AV) (t : Nat) (h : (t == d) = false) : upd g d v t = g t := if_neg (by simpa using h)

section
variable (P : Program) (h : Hints) (pr : Prims)

def Runs (g : FuncId) (args : List AV) (H : Heap) (v : AV) (H' : Heap) : Prop :=
  Ev (fun n => callA P h pr n g args H) (v, H')

def ev (n : Nat) (g : Regs) : Operand → Option AV := AAct.eval ⟨n, g⟩
theorem ev_tmp (n : Nat) (g : Regs) (t : Nat) (ht : t < n) : ev n g (.tmp t) = some (g t) := by
  simp [ev, AAct.eval, ht]
theorem ev_tm (n : Nat) (g : Regs) (t : Nat) : ev n g (.tmp t) = some (if t < n then g t else .tuple []) := rfl
theorem ev_int (n : Nat) (g : Regs) (k : IntKind) (x : Int) : ev n g (.const (.int k x)) = some (.int k x) := rfl
theorem ev_bool (n : Nat) (g : Regs) (b : Bool) : ev n g (.const (.bool b)) = some (.bool b) := rfl
theorem ev_str (n : Nat) (g : Regs) (s : ByteArray) : ev n g (.const (.string s)) = some (.str s) := rfl
theorem ev_func (n : Nat) (g : Regs) (f : FuncId) : ev n g (.func f) = some (.func f [] []) := rfl
theorem ev_nilptr (n : Nat) (g : Regs) : ev n g (.const (.pointer none)) = some .nilPtr := rfl
theorem ev_nilslice (n : Nat) (g : Regs) : ev n g (.const (.slice none 0 0)) = some .nilSlice := rfl
theorem ev_nilmap (n : Nat) (g : Regs) : ev n g (.const (.map none)) = some .nilMap := rfl

/-- The slot of an operation that stands ahead. -/
def dstAt : List Oper → Nat → Option Tmp
  | [], _ => none
  | o :: _, 0 => o.dst
  | _ :: r, j + 1 => dstAt r j

def putO (g : Regs) : Option Tmp → AV → Regs
  | none, _ => g
  | some d, v => upd g d v
theorem putO_none (g : Regs) (v : AV) : putO g none v = g := rfl
theorem putO_some (g : Regs) (d : Nat) (v : AV) : putO g (some d) v = upd g d v := rfl

def boolOf : AV → Option Bool
  | .bool b => some b
  | _ => none
theorem boolOf_bool (b : Bool) : boolOf (.bool b) = some b := rfl

/-- One operation, whatever its guard. -/
def wpD (f : FuncId) (n : Nat) (g : Regs) (H : Heap) (o : Oper) (k : Regs → Heap → Prop) : Prop :=
  match isCall o with
  | true => Bd (calleeA ⟨n, g⟩ o) (fun ga => ∃ v H', Runs P h pr ga.1 ga.2 H v H' ∧ k (putO g o.dst v) H') .mk
  | false => Bd (opA P h f ⟨n, g⟩ o H) (fun r => k (putO g o.dst r.1) r.2) .mk

def dstOk (n : Nat) : Option Tmp → Bool
  | none => true
  | some d => decide (d < n)

def wpL (f : FuncId) (n : Nat) (all : List Oper) : List Oper → Regs → Heap → (Regs → Heap → Prop) → Prop
  | [], g, H, k => k g H
  | o :: rest, g, H, k =>
    dstOk n o.dst = true ∧
    match o.guard with
    | none => wpD P h pr f n g H o fun g H => wpL f n all rest g H k
    | some (j, b) => Bd ((dstAt all j).bind fun d => (ev n g (.tmp d)).bind boolOf) (fun c =>
        Gd (c == b) (wpD P h pr f n g H o fun g H => wpL f n all rest g H k) (wpL f n all rest (putO g o.dst (.tuple [])) H k) .mk .mk) .mk

abbrev Post := AExit → Regs → Heap → Prop
def seqK (k : Regs → Heap → Prop) (Q : Post) : Post := fun o g H => match o with
  | .normal => k g H
  | o => Q o g H
theorem seqK_normal (k : Regs → Heap → Prop) (Q : Post) (g : Regs) (H : Heap) : seqK k Q .normal g H = k g H := rfl
theorem seqK_exit (k : Regs → Heap → Prop) (Q : Post) (i : Nat) (g : Regs) (H : Heap) : seqK k Q (.exit i) g H = Q (.exit i) g H := rfl
theorem seqK_goto (k : Regs → Heap → Prop) (Q : Post) (i : Nat) (g : Regs) (H : Heap) : seqK k Q (.goto i) g H = Q (.goto i) g H := rfl
theorem seqK_ret (k : Regs → Heap → Prop) (Q : Post) (g : Regs) (H : Heap) : seqK k Q .ret g H = Q .ret g H := rfl
def blockK (id : Nat) (Q : Post) : Post := fun o g H => match o with
  | .exit i => match i == id with
    | true => Q .normal g H
    | false => Q (.exit i) g H
  | o => Q o g H
theorem blockK_normal (id : Nat) (Q : Post) (g : Regs) (H : Heap) : blockK id Q .normal g H = Q .normal g H := rfl
theorem blockK_same (id : Nat) (Q : Post) (g : Regs) (H : Heap) : blockK id Q (.exit id) g H = Q .normal g H := by
  simp [blockK]
theorem blockK_ne (id i : Nat) (Q : Post) (g : Regs) (H : Heap) (e : (i == id) = false) : blockK id Q (.exit i) g H = Q (.exit i) g H := by
  simp [blockK, e]
theorem blockK_goto (id : Nat) (Q : Post) (i : Nat) (g : Regs) (H : Heap) : blockK id Q (.goto i) g H = Q (.goto i) g H := rfl
theorem blockK_ret (id : Nat) (Q : Post) (g : Regs) (H : Heap) : blockK id Q .ret g H = Q .ret g H := rfl

/-- What code does, when it is run. -/
def wpX (f : FuncId) (n : Nat) (c : Code) (g : Regs) (H : Heap) (Q : Post) : Prop :=
  ∃ o g' H', Ev (fun m => execA P h pr m f c ⟨n, g⟩ H) (o, ⟨n, g'⟩, H') ∧ Q o g' H'

def wpT (f : FuncId) (n : Nat) (c : Code) (g : Regs) (H : Heap) (Q : Post) (_ : Tok c) (_ : Tok Q) : Prop := wpX P h pr f n c g H Q

def wpC (f : FuncId) (n : Nat) : Code → Regs → Heap → Post → Prop
  | .skip, g, H, Q => Q .normal g H
  | .label _, g, H, Q => Q .normal g H
  | .seq x y, g, H, Q => wpC f n x g H (seqK (fun g H => wpC f n y g H Q) Q)
  | .cond c x y, g, H, Q => Bd ((ev n g c).bind boolOf) (fun b => Gd b (wpC f n x g H Q) (wpC f n y g H Q) .mk .mk) .mk
  | .block id c, g, H, Q => wpC f n c g H (blockK id Q)
  | .exit id, g, H, Q => Q (.exit id) g H
  | .goto l, g, H, Q => Q (.goto l) g H
  | .ret, g, H, Q => Q .ret g H
  | .region _ ops false, g, H, Q => wpL P h pr f n ops.toList ops.toList g H fun g H => Q .normal g H
  | c, g, H, Q => wpX P h pr f n c g H Q

theorem put_eq {n : Nat} {d : Option Tmp} (e : dstOk n d = true) (g : Regs) (v : AV) : AAct.put ⟨n, g⟩ d v = ⟨n, putO g d v⟩ := by
  cases d with
  | none => rfl
  | some d =>
    have : d < n := by simpa [dstOk] using e
    simp [AAct.put, this, putO]
    rfl

theorem dstAt_eq (ops : Array Oper) (j : Nat) : dstAt ops.toList j = (ops[j]?).bind (·.dst) := by
  have H : ∀ (l : List Oper) (j : Nat), dstAt l j = (l[j]?).bind (·.dst) := by
    intro l
    induction l with
    | nil => intro j; rfl
    | cons o r ih => intro j; cases j with
      | zero => rfl
      | succ j => simpa [dstAt] using ih j
  rw [H]
  simp

theorem wpD_step {f n g H o k} (ops : Array Oper) (i : Nat) (ho : ops[i]? = some o) (e : dstOk n o.dst = true) (hw : wantA ops ⟨n, g⟩ o = true)
    (hd : wpD P h pr f n g H o k) : ∃ g' H', Ev (fun m => stepA P h pr m f ops i ⟨n, g⟩ H) (⟨n, g'⟩, H') ∧ k g' H' := by
  unfold wpD at hd
  cases hc : isCall o with
  | true =>
    rw [hc] at hd
    obtain ⟨⟨gf, args⟩, he, v, H', ⟨m0, hm⟩, hk⟩ := hd
    refine ⟨_, _, ⟨m0 + 1, fun m hle => ?_⟩, hk⟩
    obtain ⟨m, rfl⟩ : ∃ m', m = m' + 1 := ⟨m - 1, by omega⟩
    simp only [stepA, ho, hw, hc, if_true, he, hm m (by omega), Option.map_some, put_eq e]
  | false =>
    rw [hc] at hd
    obtain ⟨⟨v, H'⟩, he, hk⟩ := hd
    refine ⟨_, _, ⟨1, fun m hle => ?_⟩, hk⟩
    obtain ⟨m, rfl⟩ : ∃ m', m = m' + 1 := ⟨m - 1, by omega⟩
    simp [stepA, ho, hw, hc, he, put_eq e]

theorem wpL_ok (f : FuncId) (n : Nat) (ops : Array Oper) (k : Regs → Heap → Prop) : ∀ (l : List Oper) (is : List Nat), is.map (fun i => ops[i]?) = l.map some →
    ∀ g H, wpL P h pr f n ops.toList l g H k → ∃ g' H', Ev (fun m => opsA P h pr m f ops is ⟨n, g⟩ H) (⟨n, g'⟩, H') ∧ k g' H'
  | [], [], _, g, H, hk => ⟨g, H, ⟨1, fun m hle => by
      obtain ⟨m, rfl⟩ : ∃ m', m = m' + 1 := ⟨m - 1, by omega⟩
      simp [opsA]⟩, hk⟩
  | [], _ :: _, hi, _, _, _ => by simp at hi
  | _ :: _, [], hi, _, _, _ => by simp at hi
  | o :: l, i :: is, hi, g, H, hk => by
    simp only [List.map_cons, List.cons.injEq] at hi
    obtain ⟨ho, hi⟩ := hi
    have key : ∃ g' H', Ev (fun m => stepA P h pr m f ops i ⟨n, g⟩ H) (⟨n, g'⟩, H') ∧ wpL P h pr f n ops.toList l g' H' k := by
      unfold wpL at hk
      obtain ⟨hd, hk⟩ := hk
      cases hg : o.guard with
      | none =>
        rw [hg] at hk
        exact wpD_step P h pr ops i ho hd (by simp [wantA, hg]) hk
      | some jb =>
        obtain ⟨j, b⟩ := jb
        rw [hg] at hk
        obtain ⟨c, hc, hk⟩ := hk
        have hy : yieldedA ops ⟨n, g⟩ j = some c := by
          rw [dstAt_eq] at hc
          unfold yieldedA
          cases hx : (ops[j]?).bind (·.dst) with
          | none => rw [hx] at hc; simp at hc
          | some d =>
            rw [hx] at hc
            simp only [Option.bind_some, ev] at hc
            cases hv : AAct.eval ⟨n, g⟩ (.tmp d) with
            | none => rw [hv] at hc; simp at hc
            | some v =>
              rw [hv] at hc
              simp only [Option.bind_some] at hc
              cases v <;> simp_all [boolOf]
        cases hcb : (c == b) with
        | true =>
          rw [hcb] at hk
          refine wpD_step P h pr ops i ho hd ?_ hk
          simp only [beq_iff_eq] at hcb
          simp [wantA, hg, hy, hcb]
        | false =>
          rw [hcb] at hk
          refine ⟨_, _, ⟨1, fun m hle => ?_⟩, hk⟩
          obtain ⟨m, rfl⟩ : ∃ m', m = m' + 1 := ⟨m - 1, by omega⟩
          have : wantA ops ⟨n, g⟩ o = false := by
            have hne : c ≠ b := by simpa using hcb
            simp [wantA, hg, hy, hne]
          simp [stepA, ho, this, put_eq hd]
    obtain ⟨g1, H1, ⟨m1, h1⟩, hk1⟩ := key
    obtain ⟨g2, H2, ⟨m2, h2⟩, hk2⟩ := wpL_ok f n ops k l is hi g1 H1 hk1
    refine ⟨g2, H2, ⟨max m1 m2 + 1, fun m hle => ?_⟩, hk2⟩
    obtain ⟨m, rfl⟩ : ∃ m', m = m' + 1 := ⟨m - 1, by omega⟩
    simp only [opsA, h1 m (by omega), h2 m (by omega)]

theorem Ev_step {α : Type} {F : Nat → Option α} {r : α} (n : Nat) (hF : ∀ m, n ≤ m → F (m + 1) = some r) : Ev F r :=
  ⟨n + 1, fun m hm => by
    obtain ⟨m, rfl⟩ : ∃ m', m = m' + 1 := ⟨m - 1, by omega⟩
    exact hF m (by omega)⟩

theorem wpC_ok (f : FuncId) (n : Nat) : ∀ (c : Code) (g : Regs) (H : Heap) (Q : Post), wpC P h pr f n c g H Q → wpX P h pr f n c g H Q
  | .skip, g, H, Q, hq => ⟨.normal, g, H, Ev_step 0 fun m _ => by simp [execA], hq⟩
  | .label _, g, H, Q, hq => ⟨.normal, g, H, Ev_step 0 fun m _ => by simp [execA], hq⟩
  | .exit _, g, H, Q, hq => ⟨_, g, H, Ev_step 0 fun m _ => by simp [execA], hq⟩
  | .goto _, g, H, Q, hq => ⟨_, g, H, Ev_step 0 fun m _ => by simp [execA], hq⟩
  | .ret, g, H, Q, hq => ⟨_, g, H, Ev_step 0 fun m _ => by simp [execA], hq⟩
  | .seq x y, g, H, Q, hq => by
    obtain ⟨o, g1, H1, ⟨m1, h1⟩, hq⟩ := wpC_ok f n x g H _ hq
    by_cases ho : o = .normal
    · subst ho
      obtain ⟨o2, g2, H2, ⟨m2, h2⟩, hq2⟩ := wpC_ok f n y g1 H1 Q hq
      exact ⟨o2, g2, H2, Ev_step (max m1 m2) fun m hm => by simp [execA, h1 m (by omega), h2 m (by omega)], hq2⟩
    · refine ⟨o, g1, H1, Ev_step m1 fun m hm => ?_, ?_⟩
      · simp only [execA, h1 m hm]
        cases o <;> simp_all
      · cases o <;> simp_all [seqK]
  | .cond c x y, g, H, Q, hq => by
    obtain ⟨b, hb, hq⟩ := hq
    have hb' : AAct.eval ⟨n, g⟩ c = some (.bool b) := by
      unfold ev at hb
      cases hv : AAct.eval ⟨n, g⟩ c with
      | none => rw [hv] at hb; simp at hb
      | some v => rw [hv] at hb; cases v <;> simp_all [boolOf]
    cases b with
    | true =>
      obtain ⟨o2, g2, H2, ⟨m2, h2⟩, hq2⟩ := wpC_ok f n x g H Q hq
      exact ⟨o2, g2, H2, Ev_step m2 fun m hm => by simp [execA, hb', h2 m (by omega)], hq2⟩
    | false =>
      obtain ⟨o2, g2, H2, ⟨m2, h2⟩, hq2⟩ := wpC_ok f n y g H Q hq
      exact ⟨o2, g2, H2, Ev_step m2 fun m hm => by simp [execA, hb', h2 m (by omega)], hq2⟩
  | .block id c, g, H, Q, hq => by
    obtain ⟨o, g1, H1, ⟨m1, h1⟩, hq⟩ := wpC_ok f n c g H _ hq
    cases o with
    | exit i =>
      by_cases hi : i = id
      · subst hi
        rw [blockK_same] at hq
        exact ⟨_, g1, H1, Ev_step m1 fun m hm => by simp [execA, h1 m hm], hq⟩
      · rw [blockK_ne _ _ _ _ _ (by simpa using hi)] at hq
        exact ⟨_, g1, H1, Ev_step m1 fun m hm => by simp [execA, h1 m hm, hi], hq⟩
    | normal => exact ⟨_, g1, H1, Ev_step m1 fun m hm => by simp [execA, h1 m hm], hq⟩
    | goto l => exact ⟨_, g1, H1, Ev_step m1 fun m hm => by simp [execA, h1 m hm], hq⟩
    | ret => exact ⟨_, g1, H1, Ev_step m1 fun m hm => by simp [execA, h1 m hm], hq⟩
  | .region _ ops false, g, H, Q, hq => by
    obtain ⟨g1, H1, ⟨m1, h1⟩, hq⟩ := wpL_ok P h pr f n ops _ ops.toList (List.range ops.size) (by
      apply List.ext_getElem
      · simp
      · intro i h1 h2
        simp only [List.length_map, List.length_range] at h1
        simp [h1]) g H hq
    exact ⟨_, g1, H1, Ev_step m1 fun m hm => by simp [execA, h1 m hm], hq⟩
  | .region _ _ true, _, _, _, hq => hq
  | .loop _, _, _, _, hq => hq
  | .scope _, _, _, _, hq => hq
  | .rangeFunc .., _, _, _, hq => hq
  | .refuse _, _, _, _, hq => hq

/-- A loop: what holds at its head, and what gets less. -/
theorem wpX_loop {σ : Type} (f : FuncId) (n : Nat) (c : Code) (Q : Post) (I : σ → Regs → Heap → Prop) (μ : σ → Nat)
    (hs : ∀ s g H, I s g H → wpC P h pr f n c g H (fun o g' H' => match o with
      | .normal => ∃ s', I s' g' H' ∧ μ s' < μ s
      | o => Q o g' H')) : ∀ (s : σ) g H, I s g H → wpX P h pr f n (.loop c) g H Q := by
  have key : ∀ k (s : σ) g H, μ s ≤ k → I s g H → wpX P h pr f n (.loop c) g H Q := by
    intro k
    induction k with
    | zero =>
      intro s g H hk hI
      obtain ⟨o, g1, H1, ⟨m1, h1⟩, hq⟩ := wpC_ok P h pr f n c g H _ (hs s g H hI)
      cases o with
      | normal => obtain ⟨s', _, hlt⟩ := hq; omega
      | exit i => exact ⟨_, g1, H1, Ev_step m1 fun m hm => by simp [execA, h1 m hm], hq⟩
      | goto i => exact ⟨_, g1, H1, Ev_step m1 fun m hm => by simp [execA, h1 m hm], hq⟩
      | ret => exact ⟨_, g1, H1, Ev_step m1 fun m hm => by simp [execA, h1 m hm], hq⟩
    | succ k ih =>
      intro s g H hk hI
      obtain ⟨o, g1, H1, ⟨m1, h1⟩, hq⟩ := wpC_ok P h pr f n c g H _ (hs s g H hI)
      cases o with
      | normal =>
        obtain ⟨s', hI', hlt⟩ := hq
        obtain ⟨o2, g2, H2, ⟨m2, h2⟩, hq2⟩ := ih s' g1 H1 (by omega) hI'
        exact ⟨o2, g2, H2, Ev_step (max m1 m2) fun m hm => by simp [execA, h1 m (by omega), h2 m (by omega)], hq2⟩
      | exit i => exact ⟨_, g1, H1, Ev_step m1 fun m hm => by simp [execA, h1 m hm], hq⟩
      | goto i => exact ⟨_, g1, H1, Ev_step m1 fun m hm => by simp [execA, h1 m hm], hq⟩
      | ret => exact ⟨_, g1, H1, Ev_step m1 fun m hm => by simp [execA, h1 m hm], hq⟩
  intro s g H hI
  exact key (μ s) s g H (Nat.le_refl _) hI

/-- The results, from the slots. -/
def resE (P : Program) (rs : List ResultVar) (n : Nat) (g : Regs) (H : Heap) : Option AV :=
  match rs.mapM (resultA P ⟨n, g⟩ H) with
  | some [v] => some v
  | some vs => some (.tuple vs)
  | none => none

/-- A whole call. -/
theorem runs_of {f : FuncId} {fn : Func} {c : Code} (n : Nat) (rs : List ResultVar) (hf : P.funcs[f]? = some fn) (hc : fn.body = some c) (hnm : decide (fn.name = "runtime.NumGoroutine") = false)
    (hp : pr f = none) (hnt : fn.ntmps = n) (hrs : fn.results.toList = rs) {args : List AV} (hl : Nat.ble args.length n = true) {H : Heap} {K : AV → Heap → Prop}
    (hw : wpC P h pr f n c (fun i => args.getD i (.tuple [])) H fun o g H' => match o with
      | .normal | .ret => Bd (resE P rs n g H') (fun v => K v H') .mk
      | _ => False) : ∃ v H', Runs P h pr f args H v H' ∧ K v H' := by
  subst hnt
  subst hrs
  obtain ⟨o, g1, H1, ⟨m1, h1⟩, hq⟩ := wpC_ok P h pr f _ c _ H _ hw
  have hn : (fn.name = "runtime.NumGoroutine") = False := by simpa using hnm
  have hl := Nat.le_of_ble_eq_true hl
  have hmax : max args.length fn.ntmps = fn.ntmps := by omega
  cases o with
  | normal =>
    obtain ⟨v, hv, hk⟩ := hq
    have hv : resultsA P fn ⟨fn.ntmps, g1⟩ H1 = some v := hv
    exact ⟨v, H1, Ev_step m1 fun m hm => by
      have hx := h1 m hm
      simp only at hx
      simp only [callA, hp, hf, hc, hn, hmax, if_false]
      rw [hx]
      simp only [hv, Option.map_some], hk⟩
  | ret =>
    obtain ⟨v, hv, hk⟩ := hq
    have hv : resultsA P fn ⟨fn.ntmps, g1⟩ H1 = some v := hv
    exact ⟨v, H1, Ev_step m1 fun m hm => by
      have hx := h1 m hm
      simp only at hx
      simp only [callA, hp, hf, hc, hn, hmax, if_false]
      rw [hx]
      simp only [hv, Option.map_some], hk⟩
  | exit i => exact hq.elim
  | goto i => exact hq.elim
end
end Go.AM
