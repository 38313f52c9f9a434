/- The abstract machine's values and memory, held against the kit's. -/
import Derived.Test.YtedfjabpnmjngaaDoorAM1
import Derived.Below
import Derived.Laws.AppendOwn
set_option linter.unusedSimpArgs false
set_option linter.unusedVariables false
namespace Go.AM
open Go

structure Sim where
  φ : Nat → Option (Nat × Nat)
  T : Nat → Option (Nat × Nat × Nat × Nat)
  G : Nat → Nat → Prop

structure Sim.le (σ σ' : Sim) : Prop where
  φ : ∀ b x, σ.φ b = some x → σ'.φ b = some x
  T : ∀ t x, σ.T t = some x → σ'.T t = some x
  G : ∀ g j, σ.G g j → σ'.G g j
theorem Sim.le.refl (σ : Sim) : σ.le σ := ⟨fun _ _ h => h, fun _ _ h => h, fun _ _ h => h⟩
theorem Sim.le.trans {a b c : Sim} (h : a.le b) (k : b.le c) : a.le c :=
  ⟨fun x y hx => k.φ x y (h.φ x y hx), fun x y hx => k.T x y (h.T x y hx), fun x y hx => k.G x y (h.G x y hx)⟩

def Keeps (σ : Sim) (w w' : World) : Prop := ∀ g j v, σ.G g j → w.cell? ⟨g, j, none⟩ = some v → w'.cell? ⟨g, j, none⟩ = some v
theorem Keeps.refl (σ : Sim) (w : World) : Keeps σ w w := fun _ _ _ _ h => h
theorem Keeps.trans {σ σ' : Sim} {a b c : World} (h : Keeps σ a b) (hle : σ.le σ') (k : Keeps σ' b c) : Keeps σ a c :=
  fun g j v hg hc => k g j v (hle.G _ _ hg) (h g j v hg hc)
theorem Keeps.anti {σ σ' : Sim} {a b : World} (h : Keeps σ' a b) (hle : σ.le σ') : Keeps σ a b := fun g j v hg hc => h g j v (hle.G _ _ hg) hc

/-- The cells that lie from a place on. -/
def Lies (σ : Sim) (w : World) (g o : Nat) (vs : List Value) : Prop := ∀ j v, vs[j]? = some v → w.cell? ⟨g, o + j, none⟩ = some v ∧ σ.G g (o + j)
theorem Lies.mono {σ σ' : Sim} {w w' : World} {g o : Nat} {vs : List Value} (h : Lies σ w g o vs) (hle : σ.le σ') (hk : Keeps σ w w') : Lies σ' w' g o vs :=
  fun j v hj => ⟨hk _ _ _ (h j v hj).2 (h j v hj).1, hle.G _ _ (h j v hj).2⟩

def RightOk (σ : Sim) : Right → (g o k n c : Nat) → Prop
  | .tip t, g, o, k, n, c => o = 0 ∧ σ.T t = some (g, c, k, n)
  | .full, _, _, _, n, c => c = n
  | .ro, _, _, _, _, _ => True
theorem RightOk.mono {σ σ' : Sim} {r : Right} {g o k n c : Nat} (h : RightOk σ r g o k n c) (hle : σ.le σ') : RightOk σ' r g o k n c := by
  cases r with
  | tip t => exact ⟨h.1, hle.T _ _ h.2⟩
  | full => exact h
  | ro => trivial

/-- No cell of a row is itself more than one. -/
def AV.one : AV → Bool
  | .agg _ | .tuple _ | .junk => false
  | _ => true
def oneL (xs : List AV) : Bool := xs.all AV.one

mutual
inductive Vr (σ : Sim) (w : World) : AV → Value → Prop
  | bool (b : Bool) : Vr σ w (.bool b) (.bool b)
  | int (k : IntKind) (n : Int) : Vr σ w (.int k n) (.int k n)
  | str (s : ByteArray) : Vr σ w (.str s) (.string s)
  | nilSlice : Vr σ w .nilSlice (.slice none 0 0)
  | slice {r : Right} {k : Nat} {cells : List AV} {n g o c : Nat} {vs : List Value} (hl : cells.length = n * k) (hc : n ≤ c) (hlies : Lies σ w g o vs) (hv : VrL σ w cells vs) (h1 : oneL cells = true)
      (hr : RightOk σ r g o k n c) : Vr σ w (.slice r k cells n) (.slice (some ⟨g, o, none⟩) n c)
  | hsl {b k off n g cap c : Nat} (hφ : σ.φ b = some (g, cap)) (hc : n ≤ c) (h0 : off = 0 → c = cap) : Vr σ w (.hsl b k off n) (.slice (some ⟨g, off, none⟩) n c)
  | ptr {b off g cap : Nat} (hφ : σ.φ b = some (g, cap)) : Vr σ w (.ptr b off) (.pointer (some ⟨g, off, none⟩))
  | nilPtr : Vr σ w .nilPtr (.pointer none)
  | rptr {cells : List AV} {g o : Nat} {vs : List Value} (hlies : Lies σ w g o vs) (hv : VrL σ w cells vs) (h1 : oneL cells = true) : Vr σ w (.rptr cells) (.pointer (some ⟨g, o, none⟩))
  | map {b g cap : Nat} (hφ : σ.φ b = some (g, cap)) : Vr σ w (.map b) (.map (some g))
  | nilMap : Vr σ w .nilMap (.map none)
  | func {f : FuncId} {first captured : List AV} {fs cs : Array Value} (hf : VrL σ w first fs.toList) (hc : VrL σ w captured cs.toList) : Vr σ w (.func f first captured) (.func (.func f) fs cs)
  | nilFunc : Vr σ w .nilFunc .nilFunc
  | iface {t : TypeId} {v : AV} {x : Value} (h : Vr σ w v x) : Vr σ w (.iface t v) (.iface t x)
  | nilIface : Vr σ w .nilIface .nilIface
  | agg {cs : List AV} {vs : Array Value} (h : VrL σ w cs vs.toList) (h1 : oneL cs = true) : Vr σ w (.agg cs) (.agg vs)
  | tuple {cs : List AV} {vs : Array Value} (h : VrL σ w cs vs.toList) : Vr σ w (.tuple cs) (.tuple vs)
  | iter {b g cap : Nat} (hφ : σ.φ b = some (g, cap)) : Vr σ w (.iter b) (.pointer (some ⟨g, 0, none⟩))
  | junk {a : Addr} : Vr σ w .junk (.pointer (some a))
inductive VrL (σ : Sim) (w : World) : List AV → List Value → Prop
  | nil : VrL σ w [] []
  | cons {x : AV} {v : Value} {xs : List AV} {vs : List Value} (h : Vr σ w x v) (hs : VrL σ w xs vs) : VrL σ w (x :: xs) (v :: vs)
end

mutual
theorem Vr.mono {σ σ' : Sim} {w w' : World} (hle : σ.le σ') (hk : Keeps σ w w') : ∀ {x : AV} {v : Value}, Vr σ w x v → Vr σ' w' x v
  | _, _, .bool b => .bool b
  | _, _, .int k n => .int k n
  | _, _, .str s => .str s
  | _, _, .nilSlice => .nilSlice
  | _, _, .slice hl hc hlies hv h1 hr => .slice hl hc (hlies.mono hle hk) (VrL.mono hle hk hv) h1 (hr.mono hle)
  | _, _, .hsl hφ hc h0 => .hsl (hle.φ _ _ hφ) hc h0
  | _, _, .ptr hφ => .ptr (hle.φ _ _ hφ)
  | _, _, .nilPtr => .nilPtr
  | _, _, .rptr hlies hv h1 => .rptr (hlies.mono hle hk) (VrL.mono hle hk hv) h1
  | _, _, .map hφ => .map (hle.φ _ _ hφ)
  | _, _, .nilMap => .nilMap
  | _, _, .func hf hc => .func (VrL.mono hle hk hf) (VrL.mono hle hk hc)
  | _, _, .nilFunc => .nilFunc
  | _, _, .iface h => .iface (Vr.mono hle hk h)
  | _, _, .nilIface => .nilIface
  | _, _, .agg h h1 => .agg (VrL.mono hle hk h) h1
  | _, _, .tuple h => .tuple (VrL.mono hle hk h)
  | _, _, .iter hφ => .iter (hle.φ _ _ hφ)
  | _, _, .junk => .junk
theorem VrL.mono {σ σ' : Sim} {w w' : World} (hle : σ.le σ') (hk : Keeps σ w w') : ∀ {xs : List AV} {vs : List Value}, VrL σ w xs vs → VrL σ' w' xs vs
  | _, _, .nil => .nil
  | _, _, .cons h hs => .cons (Vr.mono hle hk h) (VrL.mono hle hk hs)
end

section lists
variable {σ : Sim} {w : World}
theorem VrL.length : ∀ {xs : List AV} {vs : List Value}, VrL σ w xs vs → xs.length = vs.length
  | _, _, .nil => rfl
  | _, _, .cons _ hs => by simp [VrL.length hs]
theorem VrL.get : ∀ {xs : List AV} {vs : List Value}, VrL σ w xs vs → ∀ {i : Nat} {x : AV}, xs[i]? = some x → ∃ v, vs[i]? = some v ∧ Vr σ w x v
  | _, _, .nil, i, x, h => by simp at h
  | _, _, .cons h hs, 0, x, hx => by simp at hx; subst hx; exact ⟨_, by simp, h⟩
  | _, _, .cons h hs, i + 1, x, hx => by simp at hx; obtain ⟨v, hv, hr⟩ := VrL.get hs hx; exact ⟨v, by simpa using hv, hr⟩
theorem VrL.append : ∀ {xs ys : List AV} {vs us : List Value}, VrL σ w xs vs → VrL σ w ys us → VrL σ w (xs ++ ys) (vs ++ us)
  | _, _, _, _, .nil, h => h
  | _, _, _, _, .cons h hs, h' => .cons h (VrL.append hs h')
theorem VrL.take : ∀ {xs : List AV} {vs : List Value}, VrL σ w xs vs → ∀ n, VrL σ w (xs.take n) (vs.take n)
  | _, _, .nil, n => by simp; exact .nil
  | _, _, .cons h hs, 0 => .nil
  | _, _, .cons h hs, n + 1 => .cons h (VrL.take hs n)
theorem VrL.drop : ∀ {xs : List AV} {vs : List Value}, VrL σ w xs vs → ∀ n, VrL σ w (xs.drop n) (vs.drop n)
  | _, _, .nil, n => by simp; exact .nil
  | _, _, .cons h hs, 0 => .cons h hs
  | _, _, .cons h hs, n + 1 => VrL.drop hs n
theorem VrL.set : ∀ {xs : List AV} {vs : List Value}, VrL σ w xs vs → ∀ {i : Nat} {x : AV} {v : Value}, Vr σ w x v → VrL σ w (xs.set i x) (vs.set i v)
  | _, _, .nil, i, _, _, _ => by simp; exact .nil
  | _, _, .cons h hs, 0, _, _, h' => .cons h' hs
  | _, _, .cons h hs, i + 1, _, _, h' => .cons h (VrL.set hs h')
theorem Vr.one {x : AV} {v : Value} (h : Vr σ w x v) (hx : x.one = true) : v.cells = #[v] ∧ v.oneCell' = true := by
  cases h <;> simp_all [AV.one, Value.cells, Value.oneCell']
theorem Vr.flat {x : AV} {v : Value} (h : Vr σ w x v) {xs : List AV} (hx : x.flat = some xs) : VrL σ w xs v.cells.toList ∧ oneL xs = true := by
  cases h <;> simp only [AV.flat, Option.some.injEq] at hx <;>
    first
    | (subst hx; exact ⟨by simpa [Value.cells], by assumption⟩)
    | (subst hx; simp only [Value.cells]; exact ⟨.cons (by constructor <;> assumption) .nil, rfl⟩)
    | cases hx
theorem VrL.one {xs : List AV} {vs : List Value} (h : VrL σ w xs vs) (h1 : oneL xs = true) : ∀ v ∈ vs, v.oneCell' = true := by
  intro v hv
  obtain ⟨i, hi, rfl⟩ := List.mem_iff_getElem.1 hv
  have hl := h.length
  have hx : xs[i]? = some (xs[i]'(by omega)) := by simp
  obtain ⟨v', hv', hr⟩ := h.get hx
  have : vs[i] = v' := by simpa [hi] using hv'
  rw [this]
  refine (hr.one ?_).2
  exact List.all_eq_true.1 h1 _ (List.getElem_mem _)
theorem oneL_append {xs ys : List AV} (h : oneL xs = true) (k : oneL ys = true) : oneL (xs ++ ys) = true := by simp only [oneL, List.all_append] at *; simp [h, k]
theorem oneL_mem {xs ys : List AV} (h : oneL xs = true) (k : ∀ y ∈ ys, y ∈ xs) : oneL ys = true := by
  simp only [oneL, List.all_eq_true] at *; exact fun y hy => h y (k y hy)
theorem oneL_take {xs : List AV} (h : oneL xs = true) (n : Nat) : oneL (xs.take n) = true := oneL_mem h fun _ hy => List.mem_of_mem_take hy
theorem oneL_drop {xs : List AV} (h : oneL xs = true) (n : Nat) : oneL (xs.drop n) = true := oneL_mem h fun _ hy => List.mem_of_mem_drop hy
theorem oneL_set {xs : List AV} (h : oneL xs = true) {i : Nat} {x : AV} (hx : x.one = true) : oneL (xs.set i x) = true := by
  simp only [oneL, List.all_eq_true] at *
  intro y hy
  rcases List.mem_or_eq_of_mem_set hy with hy | rfl
  · exact h y hy
  · exact hx
end lists
end Go.AM
