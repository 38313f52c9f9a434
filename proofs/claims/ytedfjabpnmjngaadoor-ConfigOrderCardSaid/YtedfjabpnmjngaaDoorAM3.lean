/- The abstract memory, held against the kit's world; how it goes on. -/
import Derived.Test.YtedfjabpnmjngaaDoorAM2
set_option linter.unusedSimpArgs false
set_option linter.unusedVariables false
namespace Go.AM
open Go Go.RowKit

inductive MapR (σ : Sim) (w : World) : List (AV × AV) → List MapEntry → Prop
  | nil : MapR σ w [] []
  | cons {k v : AV} {e : MapEntry} {es : List (AV × AV)} {ents : List MapEntry} (hk : Vr σ w k e.key) (hv : Vr σ w v e.val) (hs : MapR σ w es ents) : MapR σ w ((k, v) :: es) (e :: ents)
theorem MapR.mono {σ σ' : Sim} {w w' : World} (hle : σ.le σ') (hk : Keeps σ w w') {es : List (AV × AV)} {ents : List MapEntry} (h : MapR σ w es ents) : MapR σ' w' es ents := by
  induction h with
  | nil => exact .nil
  | cons h1 h2 _ ih => exact .cons (h1.mono hle hk) (h2.mono hle hk) ih

/-- What stands behind an abstract place. -/
def Stands (base : Nat) (σ : Sim) (w : World) (g cap : Nat) : Cell → Prop
  | .dead => True
  | .cells cs => base ≤ g ∧ ∃ cur e, w.heap[g]? = some (.cells cur e (0, 0)) ∧ VrL σ w cs cur.toList ∧ oneL cs = true ∧ ∀ j, ¬ σ.G g j
  | .row e k cs => base ≤ g ∧ cap ≤ maxLen ∧ ∃ cur n, w.heap[g]? = some (.cells cur e (0, 0)) ∧ cur.size = cap * k ∧ cs.length = n * k ∧ n ≤ cap ∧ VrL σ w cs (cur.toList.take cs.length) ∧ oneL cs = true ∧ ∀ j, ¬ σ.G g j
  | .map es => base ≤ g ∧ ∃ ents clock, w.heap[g]? = some (.map ents clock) ∧ MapR σ w es ents.toList
  | .iter s pos => base ≤ g ∧ w.heap[g]? = some (.stringIter s pos)

def Tipped (base : Nat) (σ : Sim) (w : World) (e : TypeId) (g c k n : Nat) : Prop :=
  base ≤ g ∧ c ≤ maxLen ∧ n ≤ c ∧ ∃ cur, w.heap[g]? = some (.cells cur e (0, 0)) ∧ cur.size = c * k ∧ ∀ j, n * k ≤ j → ¬ σ.G g j

structure Rep (E : World → Prop) (base : Nat) (σ : Sim) (w : World) (H : Heap) : Prop where
  env : E w
  baseLe : base ≤ w.heap.size
  obj : ∀ b, H.objs b ≠ .dead → ∃ g cap, σ.φ b = some (g, cap) ∧ Stands base σ w g cap (H.objs b)
  inj : ∀ b b' g c c', H.objs b ≠ .dead → H.objs b' ≠ .dead → σ.φ b = some (g, c) → σ.φ b' = some (g, c') → b = b'
  tip : ∀ t e, H.tips t = some e → ∃ g c k n, σ.T t = some (g, c, k, n) ∧ Tipped base σ w e g c k n
  tipInj : ∀ t t' g x x', (H.tips t).isSome → (H.tips t').isSome → σ.T t = some (g, x) → σ.T t' = some (g, x') → t = t'
  tipObj : ∀ t b g x c, (H.tips t).isSome → H.objs b ≠ .dead → σ.T t = some (g, x) → σ.φ b = some (g, c) → False
  freshφ : ∀ b g c, σ.φ b = some (g, c) → b < H.next ∧ g < w.heap.size
  freshT : ∀ t g x, σ.T t = some (g, x) → t < H.next ∧ g < w.heap.size
  freshG : ∀ g j, σ.G g j → g < w.heap.size
  freshO : ∀ b, H.next ≤ b → H.objs b = .dead
  freshTip : ∀ t, H.next ≤ t → H.tips t = none

theorem Stands.mono {base : Nat} {σ σ' : Sim} {w w' : World} {g cap : Nat} {c : Cell} (hle : σ.le σ') (hk : Keeps σ w w') (hb : w'.heap[g]? = w.heap[g]?) (hG : ∀ j, σ'.G g j → σ.G g j)
    (h : Stands base σ w g cap c) : Stands base σ' w' g cap c := by
  cases c with
  | dead => trivial
  | cells cs => obtain ⟨h0, cur, e, h1, h2, h3, h4⟩ := h; exact ⟨h0, cur, e, hb.trans h1, h2.mono hle hk, h3, fun j hj => h4 j (hG j hj)⟩
  | row e k cs => obtain ⟨h0, hm, cur, n, h1, h2, h3, h4, h5, h6, h7⟩ := h; exact ⟨h0, hm, cur, n, hb.trans h1, h2, h3, h4, h5.mono hle hk, h6, fun j hj => h7 j (hG j hj)⟩
  | map es => obtain ⟨h0, ents, clock, h1, h2⟩ := h; exact ⟨h0, ents, clock, hb.trans h1, h2.mono hle hk⟩
  | iter s pos => exact ⟨h.1, hb.trans h.2⟩
theorem Tipped.mono {base : Nat} {σ σ' : Sim} {w w' : World} {e : TypeId} {g c k n : Nat} (hb : w'.heap[g]? = w.heap[g]?) (hG : ∀ j, σ'.G g j → σ.G g j)
    (h : Tipped base σ w e g c k n) : Tipped base σ' w' e g c k n := by
  obtain ⟨h0, h1, h2, cur, h3, h4, h5⟩ := h
  exact ⟨h0, h1, h2, cur, hb.trans h3, h4, fun j hj hg => h5 j hj (hG j hg)⟩

/-- A block that nothing of the abstract memory leads to. -/
structure Loose (σ : Sim) (g : Nat) : Prop where
  φ : ∀ b c, σ.φ b ≠ some (g, c)
  T : ∀ t x, σ.T t ≠ some (g, x)
  G : ∀ j, ¬ σ.G g j

/-- From one state to the next. -/
structure Goes (base : Nat) (σ : Sim) (w : World) (σ' : Sim) (w' : World) : Prop where
  le : σ.le σ'
  keeps : Keeps σ w w'
  below : Below base w w'
  frame : ∀ g, g < w.heap.size → Loose σ g → Loose σ' g ∧ w'.heap[g]? = w.heap[g]?
theorem Goes.refl (base : Nat) (σ : Sim) (w : World) : Goes base σ w σ w := ⟨.refl σ, .refl σ w, .refl base w, fun _ _ h => ⟨h, rfl⟩⟩
theorem Goes.trans {base : Nat} {σ σ1 σ2 : Sim} {w w1 w2 : World} (h : Goes base σ w σ1 w1) (k : Goes base σ1 w1 σ2 w2) : Goes base σ w σ2 w2 :=
  ⟨h.le.trans k.le, h.keeps.trans h.le k.keeps, h.below.trans k.below, fun g hl h0 => by
    obtain ⟨h1, e1⟩ := h.frame g hl h0
    obtain ⟨h2, e2⟩ := k.frame g (Nat.lt_of_lt_of_le hl h.below.size) h1
    exact ⟨h2, e2.trans e1⟩⟩
theorem Vr.goes {base : Nat} {σ σ' : Sim} {w w' : World} {x : AV} {v : Value} (h : Vr σ w x v) (g : Goes base σ w σ' w') : Vr σ' w' x v := h.mono g.le g.keeps
theorem VrL.goes {base : Nat} {σ σ' : Sim} {w w' : World} {x : List AV} {v : List Value} (h : VrL σ w x v) (g : Goes base σ w σ' w') : VrL σ' w' x v := h.mono g.le g.keeps

/-- All blocks but one are as they were: the protected cells are. -/
theorem keeps_of_block {σ : Sim} {w w' : World} (h : ∀ g j, σ.G g j → w'.heap[g]? = w.heap[g]?) : Keeps σ w w' := by
  intro g j v hg hc
  rw [← hc]
  exact World.cell?_of_block (a := ⟨g, j, none⟩) (h g j hg)

section steps
variable {E : World → Prop} {base : Nat} {σ : Sim} {w : World} {H : Heap}

/-- A block more, told of by nothing. -/
theorem Rep.grow (hE : ∀ w w', E w → Below base w w' → E w') (h : Rep E base σ w H) {w' : World} (hg : w.grownBy w' none) : Rep E base σ w' H ∧ Goes base σ w σ w' := by
  have hb : Below base w w' := (Below.refl base w).grown hg h.baseLe (by simp)
  have same : ∀ g, g < w.heap.size → w'.heap[g]? = w.heap[g]? := fun g hl => hg.block g hl (by simp)
  have hk : Keeps σ w w' := keeps_of_block fun g j hj => same g (h.freshG g j hj)
  refine ⟨⟨hE _ _ h.env hb, Nat.le_trans h.baseLe hg.size, fun b hd => ?_, h.inj, fun t e ht => ?_, h.tipInj, h.tipObj, fun b g c hφ => ?_, fun t g x hT => ?_, fun g j hG => ?_, h.freshO, h.freshTip⟩, ⟨.refl σ, hk, hb, fun g hl hL => ⟨hL, same g hl⟩⟩⟩
  · obtain ⟨g, cap, hφ, hs⟩ := h.obj b hd
    exact ⟨g, cap, hφ, hs.mono (.refl σ) hk (same g (h.freshφ b g cap hφ).2) fun _ hj => hj⟩
  · obtain ⟨g, c, k, n, hT, hs⟩ := h.tip t e ht
    exact ⟨g, c, k, n, hT, hs.mono (same g (h.freshT t g _ hT).2) fun _ hj => hj⟩
  · exact ⟨(h.freshφ b g c hφ).1, Nat.lt_of_lt_of_le (h.freshφ b g c hφ).2 hg.size⟩
  · exact ⟨(h.freshT t g x hT).1, Nat.lt_of_lt_of_le (h.freshT t g x hT).2 hg.size⟩
  · exact Nat.lt_of_lt_of_le (h.freshG g j hG) hg.size

def Sim.mark (σ : Sim) (g n : Nat) : Sim := { σ with G := fun x j => σ.G x j ∨ (x = g ∧ j < n) }
theorem Sim.le_mark (σ : Sim) (g n : Nat) : σ.le (σ.mark g n) := ⟨fun _ _ h => h, fun _ _ h => h, fun _ _ h => .inl h⟩

/-- A block that nothing else leads to is protected. -/
theorem Rep.protect (h : Rep E base σ w H) (g n : Nat) (hlt : g < w.heap.size) (ho : ∀ b c, H.objs b ≠ .dead → σ.φ b = some (g, c) → False)
    (ht : ∀ t x, (H.tips t).isSome → σ.T t = some (g, x) → False) : Rep E base (σ.mark g n) w H := by
  have hle := σ.le_mark g n
  refine ⟨h.env, h.baseLe, fun b hd => ?_, h.inj, fun t e hh => ?_, h.tipInj, h.tipObj, h.freshφ, h.freshT, fun x j hG => ?_, h.freshO, h.freshTip⟩
  · obtain ⟨g', cap, hφ, hs⟩ := h.obj b hd
    refine ⟨g', cap, hφ, hs.mono hle (.refl _ _) rfl fun j hj => ?_⟩
    rcases hj with hj | ⟨rfl, _⟩
    · exact hj
    · exact (ho b cap hd hφ).elim
  · obtain ⟨g', c, k, n', hT, hs⟩ := h.tip t e hh
    refine ⟨g', c, k, n', hT, hs.mono rfl fun j hj => ?_⟩
    rcases hj with hj | ⟨rfl, _⟩
    · exact hj
    · exact (ht t _ (by simp [hh]) hT).elim
  · rcases hG with hG | ⟨rfl, _⟩
    · exact h.freshG x j hG
    · exact hlt

def Sim.newObj (σ : Sim) (b g cap : Nat) : Sim := { σ with φ := fun x => if x = b then some (g, cap) else σ.φ x }
def Sim.newTip (σ : Sim) (t g c k n : Nat) : Sim :=
  { σ with T := fun x => if x = t then some (g, c, k, n) else σ.T x, G := fun x j => σ.G x j ∨ (x = g ∧ j < n * k) }

theorem Rep.φ_next (h : Rep E base σ w H) : σ.φ H.next = none := by
  cases hφ : σ.φ H.next with
  | none => rfl
  | some x => obtain ⟨g, c⟩ := x; have := (h.freshφ _ _ _ hφ).1; omega
theorem Rep.T_next (h : Rep E base σ w H) : σ.T H.next = none := by
  cases hT : σ.T H.next with
  | none => rfl
  | some x => obtain ⟨g, c⟩ := x; have := (h.freshT _ _ _ hT).1; omega

theorem Rep.le_newObj (h : Rep E base σ w H) (g cap : Nat) : σ.le (σ.newObj H.next g cap) := by
  refine ⟨fun b x hx => ?_, fun _ _ h => h, fun _ _ h => h⟩
  by_cases hb : b = H.next
  · subst hb; rw [h.φ_next] at hx; cases hx
  · simp only [Sim.newObj, if_neg hb]; exact hx
theorem Rep.le_newTip (h : Rep E base σ w H) (g c k n : Nat) : σ.le (σ.newTip H.next g c k n) := by
  refine ⟨fun _ _ h => h, fun t x hx => ?_, fun _ _ h => .inl h⟩
  by_cases hb : t = H.next
  · subst hb; rw [h.T_next] at hx; cases hx
  · simp only [Sim.newTip, if_neg hb]; exact hx

/-- A new place of the abstract memory, over a block that nothing else leads to. -/
theorem Rep.addObj (h : Rep E base σ w H) (c : Cell) (g cap : Nat) (hlt : g < w.heap.size) (ho : ∀ b c, H.objs b ≠ .dead → σ.φ b = some (g, c) → False)
    (ht : ∀ t x, (H.tips t).isSome → σ.T t = some (g, x) → False) (hs : Stands base (σ.newObj H.next g cap) w g cap c) :
    Rep E base (σ.newObj H.next g cap) w (H.new c) := by
  have hle := h.le_newObj g cap
  have hφn : ∀ b, b ≠ H.next → (σ.newObj H.next g cap).φ b = σ.φ b := fun b hb => by simp [Sim.newObj, hb]
  have hφ0 : (σ.newObj H.next g cap).φ H.next = some (g, cap) := by simp [Sim.newObj]
  have hon : ∀ b, b ≠ H.next → (H.new c).objs b = H.objs b := fun b hb => by simp [Heap.new, hb]
  refine ⟨h.env, h.baseLe, fun b hd => ?_, fun b b' g' c1 c2 hd hd' h1 h2 => ?_, fun t e hh => ?_, h.tipInj, fun t b g' x c1 hh hd hT hφ => ?_, fun b g' c1 hφ => ?_, fun t g' x hT => ?_, h.freshG, fun b hb => ?_, fun t htn => ?_⟩
  · by_cases hb : b = H.next
    · subst hb; exact ⟨g, cap, hφ0, by simpa [Heap.new] using hs⟩
    · rw [hon b hb] at hd ⊢
      obtain ⟨g', cap', hφ, hs'⟩ := h.obj b hd
      exact ⟨g', cap', by rw [hφn b hb]; exact hφ, hs'.mono hle (.refl _ _) rfl fun _ hj => hj⟩
  · by_cases hb : b = H.next <;> by_cases hb' : b' = H.next
    · rw [hb, hb']
    · subst hb; rw [hφ0] at h1; cases h1; rw [hφn _ hb'] at h2; rw [hon _ hb'] at hd'; exact (ho b' c2 hd' h2).elim
    · subst hb'; rw [hφ0] at h2; cases h2; rw [hφn _ hb] at h1; rw [hon _ hb] at hd; exact (ho b c1 hd h1).elim
    · rw [hφn _ hb] at h1; rw [hφn _ hb'] at h2; rw [hon _ hb] at hd; rw [hon _ hb'] at hd'; exact h.inj b b' g' c1 c2 hd hd' h1 h2
  · obtain ⟨g', c1, k, n, hT, hs'⟩ := h.tip t e hh
    exact ⟨g', c1, k, n, hT, hs'.mono rfl fun _ hj => hj⟩
  · by_cases hb : b = H.next
    · subst hb; rw [hφ0] at hφ; cases hφ; exact ht t x hh hT
    · rw [hφn _ hb] at hφ; rw [hon _ hb] at hd; exact h.tipObj t b g' x c1 hh hd hT hφ
  · by_cases hb : b = H.next
    · subst hb; rw [hφ0] at hφ; cases hφ; exact ⟨by simp [Heap.new], hlt⟩
    · rw [hφn _ hb] at hφ; have := h.freshφ b g' c1 hφ; exact ⟨by simp [Heap.new]; omega, this.2⟩
  · have := h.freshT t g' x hT; exact ⟨by simp [Heap.new]; omega, this.2⟩
  · simp only [Heap.new] at hb ⊢; rw [if_neg (by omega)]; exact h.freshO b (by omega)
  · simp only [Heap.new] at htn ⊢; exact h.freshTip t (by omega)

/-- A new slice's own block. -/
theorem Rep.addTip (h : Rep E base σ w H) (e : TypeId) (g c k n : Nat) (hlt : g < w.heap.size) (ho : ∀ b c, H.objs b ≠ .dead → σ.φ b = some (g, c) → False)
    (ht : ∀ t x, (H.tips t).isSome → σ.T t = some (g, x) → False) (hs : Tipped base (σ.newTip H.next g c k n) w e g c k n) :
    Rep E base (σ.newTip H.next g c k n) w (H.newTip e) := by
  have hle := h.le_newTip g c k n
  have hTn : ∀ b, b ≠ H.next → (σ.newTip H.next g c k n).T b = σ.T b := fun b hb => by simp [Sim.newTip, hb]
  have hT0 : (σ.newTip H.next g c k n).T H.next = some (g, c, k, n) := by simp [Sim.newTip]
  have htn' : ∀ b, b ≠ H.next → (H.newTip e).tips b = H.tips b := fun b hb => by simp [Heap.newTip, hb]
  refine ⟨h.env, h.baseLe, fun b hd => ?_, h.inj, fun t e' hh => ?_, fun t t' g' x x' h1 h2 hT hT' => ?_, fun t b g' x c1 hh hd hT hφ => ?_, fun b g' c1 hφ => ?_, fun t g' x hT => ?_, fun g' j hG => ?_, fun b hb => ?_, fun t htn => ?_⟩
  · obtain ⟨g', cap', hφ, hs'⟩ := h.obj b hd
    refine ⟨g', cap', hφ, hs'.mono hle (.refl _ _) rfl fun j hj => ?_⟩
    rcases hj with hj | ⟨rfl, _⟩
    · exact hj
    · exact (ho b cap' hd hφ).elim
  · by_cases hb : t = H.next
    · subst hb
      have he : e' = e := by simpa [Heap.newTip] using hh.symm
      subst he
      exact ⟨g, c, k, n, hT0, hs⟩
    · rw [htn' t hb] at hh
      obtain ⟨g', c1, k1, n1, hT, hs'⟩ := h.tip t e' hh
      refine ⟨g', c1, k1, n1, by rw [hTn t hb]; exact hT, hs'.mono rfl fun j hj => ?_⟩
      rcases hj with hj | ⟨rfl, _⟩
      · exact hj
      · exact (ht t _ (by simp [hh]) hT).elim
  · by_cases hb : t = H.next <;> by_cases hb' : t' = H.next
    · rw [hb, hb']
    · subst hb; rw [hT0] at hT; cases hT; rw [hTn _ hb'] at hT'; rw [htn' _ hb'] at h2; exact (ht t' _ h2 hT').elim
    · subst hb'; rw [hT0] at hT'; cases hT'; rw [hTn _ hb] at hT; rw [htn' _ hb] at h1; exact (ht t _ h1 hT).elim
    · rw [hTn _ hb] at hT; rw [hTn _ hb'] at hT'; rw [htn' _ hb] at h1; rw [htn' _ hb'] at h2; exact h.tipInj t t' g' x x' h1 h2 hT hT'
  · by_cases hb : t = H.next
    · subst hb; rw [hT0] at hT; cases hT; exact ho b c1 hd hφ
    · rw [hTn _ hb] at hT; rw [htn' _ hb] at hh; exact h.tipObj t b g' x c1 hh hd hT hφ
  · have := h.freshφ b g' c1 hφ; exact ⟨by simp [Heap.newTip]; omega, this.2⟩
  · by_cases hb : t = H.next
    · subst hb; rw [hT0] at hT; cases hT; exact ⟨by simp [Heap.newTip], hlt⟩
    · rw [hTn _ hb] at hT; have := h.freshT t g' x hT; exact ⟨by simp [Heap.newTip]; omega, this.2⟩
  · rcases hG with hG | ⟨rfl, _⟩
    · exact h.freshG g' j hG
    · exact hlt
  · simp only [Heap.newTip] at hb ⊢; exact h.freshO b (by omega)
  · simp only [Heap.newTip] at htn ⊢; rw [if_neg (by omega)]; exact h.freshTip t (by omega)

theorem Rep.spend (h : Rep E base σ w H) (t : Nat) : Rep E base σ w (H.spend t) := by
  have hs : ∀ x e, (H.spend t).tips x = some e → H.tips x = some e := fun x e hx => by
    simp only [Heap.spend] at hx; split at hx
    · cases hx
    · exact hx
  have hs' : ∀ x, ((H.spend t).tips x).isSome → (H.tips x).isSome := fun x hx => by
    cases he : (H.spend t).tips x with
    | none => rw [he] at hx; cases hx
    | some e => rw [hs x e he]; rfl
  refine ⟨h.env, h.baseLe, h.obj, h.inj, fun x e hx => h.tip x e (hs x e hx), fun a b g x x' h1 h2 => h.tipInj a b g x x' (hs' a h1) (hs' b h2), fun a b g x c h1 => h.tipObj a b g x c (hs' a h1), h.freshφ, h.freshT, h.freshG, h.freshO, fun x hx => ?_⟩
  simp only [Heap.spend]; split
  · rfl
  · exact h.freshTip x hx

theorem Rep.kill (h : Rep E base σ w H) (b : Nat) : Rep E base σ w (H.set b .dead) := by
  have hs : ∀ x, (H.set b .dead).objs x ≠ .dead → x ≠ b ∧ H.objs x ≠ .dead := fun x hx => by
    simp only [Heap.set] at hx; split at hx
    · exact (hx rfl).elim
    · exact ⟨by assumption, hx⟩
  refine ⟨h.env, h.baseLe, fun x hx => ?_, fun x y g c c' hx hy => h.inj x y g c c' (hs x hx).2 (hs y hy).2, h.tip, h.tipInj, fun t x g y c ht hx => h.tipObj t x g y c ht (hs x hx).2, h.freshφ, h.freshT, h.freshG, fun x hx => ?_, h.freshTip⟩
  · have := hs x hx
    simp only [Heap.set, if_neg this.1]
    exact h.obj x this.2
  · simp only [Heap.set]; split
    · rfl
    · exact h.freshO x hx

/-- A place is written: its own block alone has turned. -/
theorem Rep.write (hE : ∀ w w', E w → Below base w w' → E w') (h : Rep E base σ w H) {b g cap : Nat} (hd : H.objs b ≠ .dead) (hφ : σ.φ b = some (g, cap)) (hb : base ≤ g) {w' : World}
    (hg : w.grownBy w' (some g)) (hG : ∀ j, ¬ σ.G g j) (c : Cell) (hs : Keeps σ w w' → Stands base σ w' g cap c) :
    Rep E base σ w' (H.set b c) ∧ Goes base σ w σ w' := by
  have hbe : Below base w w' := (Below.refl base w).grown hg h.baseLe (by simp; exact hb)
  have same : ∀ x, x < w.heap.size → x ≠ g → w'.heap[x]? = w.heap[x]? := fun x hl hx => hg.block x hl (by simp [hx])
  have hk : Keeps σ w w' := keeps_of_block fun x j hj => same x (h.freshG x j hj) (fun e => hG j (e ▸ hj))
  refine ⟨⟨hE _ _ h.env hbe, Nat.le_trans h.baseLe hg.size, fun x hx => ?_, fun x y g' c1 c2 hx hy h1 h2 => ?_, fun t e ht => ?_, h.tipInj, fun t x g' y c1 ht hx hT hφ' => ?_, fun b g c hφ => ?_, fun t g x hT => ?_, fun g j hG => ?_, fun x hx => ?_, h.freshTip⟩, ⟨.refl σ, hk, hbe, fun x hl hL => ⟨hL, same x hl (fun e => hL.φ b cap (e ▸ hφ))⟩⟩⟩
  · by_cases hxb : x = b
    · subst hxb; exact ⟨g, cap, hφ, by simpa [Heap.set] using hs hk⟩
    · simp only [Heap.set, if_neg hxb] at hx ⊢
      obtain ⟨g', cap', hφ', hs'⟩ := h.obj x hx
      exact ⟨g', cap', hφ', hs'.mono (.refl σ) hk (same g' (h.freshφ x g' cap' hφ').2 (fun e => hxb (h.inj x b g cap' cap hx hd (e ▸ hφ') hφ))) fun _ hj => hj⟩
  · have up : ∀ z, (H.set b c).objs z ≠ .dead → H.objs z ≠ .dead := fun z hz => by
      by_cases hzb : z = b
      · subst hzb; exact hd
      · simpa only [Heap.set, if_neg hzb] using hz
    exact h.inj x y g' c1 c2 (up x hx) (up y hy) h1 h2
  · obtain ⟨g', c1, k, n, hT, hs'⟩ := h.tip t e ht
    exact ⟨g', c1, k, n, hT, hs'.mono (same g' (h.freshT t g' _ hT).2 (fun e' => h.tipObj t b g _ cap (by rw [show H.tips t = some e from ht]; rfl) hd (e' ▸ hT) hφ)) fun _ hj => hj⟩
  · by_cases hxb : x = b
    · subst hxb; exact h.tipObj t x g' y c1 ht hd hT hφ'
    · simp only [Heap.set, if_neg hxb] at hx; exact h.tipObj t x g' y c1 ht hx hT hφ'
  · exact ⟨(h.freshφ b g c hφ).1, Nat.lt_of_lt_of_le (h.freshφ b g c hφ).2 hg.size⟩
  · exact ⟨(h.freshT t g x hT).1, Nat.lt_of_lt_of_le (h.freshT t g x hT).2 hg.size⟩
  · exact Nat.lt_of_lt_of_le (h.freshG g j hG) hg.size
  · by_cases hxb : x = b
    · subst hxb; exact (hd (h.freshO x hx)).elim
    · simp only [Heap.set, if_neg hxb]; exact h.freshO x hx
end steps
end Go.AM
