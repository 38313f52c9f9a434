/- Slices that grow by append. -/
import Derived.Test.YtedfjabpnmjngaaDoorAM27
set_option linter.unusedSimpArgs false
set_option linter.unusedVariables false
namespace Go.AM
open Go

/-- A slice that may be appended to: nil, or the last one of its block; made not below b. -/
def AppV (b : Nat) (e : TypeId) (k : Nat) (H : Heap) (v : AV) (cells : List AV) (n : Nat) : Prop :=
  (v = .nilSlice ∧ cells = [] ∧ n = 0) ∨ ∃ t, v = .slice (.tip t) k cells n ∧ H.tips t = some e ∧ b ≤ t ∧ t < H.next

section
variable {P : Program} {t t' e : TypeId} {i : TypeInfo} {k b : Nat} {H : Heap}
structure AppT (P : Program) (t t' e : TypeId) (k bytes : Nat) : Prop where
  elem : elemOf? P t = some e
  info : (P.info? e).map (fun i => (i.size, i.bytes)) = some (k, bytes)
  src : srcOk P t' = true
  pos : 0 < k
  zero : (zeroOf P e).map List.length = some k

theorem newTip_next (H : Heap) (e : TypeId) : (H.newTip e).next = H.next + 1 := rfl
theorem newTip_objs (H : Heap) (e : TypeId) : (H.newTip e).objs = H.objs := rfl
theorem spend_next (H : Heap) (t : Nat) : (H.spend t).next = H.next := rfl
theorem spend_objs (H : Heap) (t : Nat) : (H.spend t).objs = H.objs := rfl

theorem append_row {bytes : Nat} (T : AppT P t t' e k bytes) {v x : AV} {cells xs : List AV} {n m : Nat} (hv : AppV b e k H v cells n) (hx : sliceCells k H x = some (xs, m)) (hm : 0 < m) (hroom : (n + m) * (bytes + 1) ≤ 70368744177664) (hb : b ≤ H.next) :
    ∃ H', appendA P false t t' v x H = some (.slice (.tip H.next) k (cells ++ xs) (n + m), H') ∧ AppV b e k H' (.slice (.tip H.next) k (cells ++ xs) (n + m)) (cells ++ xs) (n + m) ∧
      H'.objs = H.objs ∧ H'.next = H.next + 1 ∧ ∀ y, y < b → H'.tips y = H.tips y := by
  obtain ⟨i, hi, hsz, hby⟩ : ∃ i, P.info? e = some i ∧ i.size = k ∧ i.bytes = bytes := by
    have h := T.info
    cases hi : P.info? e with
    | none => rw [hi] at h; cases h
    | some i =>
      rw [hi] at h
      simp only [Option.map_some, Option.some.injEq, Prod.mk.injEq] at h
      exact ⟨i, rfl, h.1, h.2⟩
  subst hsz
  subst hby
  have hm0 : ¬ m = 0 := by omega
  rcases hv with ⟨rfl, rfl, rfl⟩ | ⟨tp, rfl, ht, hbt, htn⟩
  · refine ⟨H.newTip e, ?_, .inr ⟨H.next, rfl, by simp [Heap.newTip], hb, by rw [newTip_next]; omega⟩, rfl, rfl, fun y hy => ?_⟩
    · have hr : roomy m i.bytes = true := by
        unfold roomy
        rw [Nat.zero_add] at hroom
        simpa using hroom
      unfold appendA
      rw [T.elem]
      simp only [hi]
      rw [if_pos ⟨T.src, T.pos, T.zero⟩, hx]
      simp only [hm0, if_false, hr, if_true]
      simp [newSlice]
    · simp only [Heap.newTip]
      rw [if_neg (by omega)]
  · refine ⟨(H.spend tp).newTip e, ?_, .inr ⟨H.next, rfl, by simp [Heap.newTip, Heap.spend], hb, by rw [newTip_next, spend_next]; omega⟩, rfl, rfl, fun y hy => ?_⟩
    · have hr : roomy (n + m) i.bytes = true := by unfold roomy; simpa using hroom
      unfold appendA
      rw [T.elem]
      simp only [hi]
      rw [if_pos ⟨T.src, T.pos, T.zero⟩, hx]
      simp only [ht, hm0, if_false, hr, if_true, and_self]
      simp [newSlice, spend_next]
    · have h1 : y ≠ H.next := by omega
      have h2 : y ≠ tp := by omega
      simp [Heap.newTip, Heap.spend, h1, h2]
theorem AppV.keep {v : AV} {cells : List AV} {n : Nat} (h : AppV b e k H v cells n) {H' : Heap} (hg : Gr H H') : AppV b e k H' v cells n := by
  rcases h with h | ⟨t, h1, h2, h3, h4⟩
  · exact .inl h
  · exact .inr ⟨t, h1, by rw [hg.tips t h4]; exact h2, h3, Nat.lt_of_lt_of_le h4 hg.next⟩
theorem Gr.app {H0 H H' : Heap} (h : Gr H0 H) (ho : H'.objs = H.objs) (hn : H'.next = H.next + 1) (ht : ∀ y, y < H0.next → H'.tips y = H.tips y) : Gr H0 H' :=
  ⟨by rw [hn]; exact Nat.le_succ_of_le h.next, fun x hx => by rw [ho]; exact h.objs x hx, fun x hx => by rw [ht x hx]; exact h.tips x hx⟩
/-- As a row of one cell an element. -/
theorem AppV.row1 {α : Type} {av : α → AV} {l : List α} {v : AV} (h : AppV b e 1 H v (l.map av) l.length) : Row1 av v l := by
  rcases h with ⟨h1, h2, h3⟩ | ⟨t, h1, _⟩
  · exact .inl ⟨h1, List.eq_nil_of_length_eq_zero h3⟩
  · exact .inr ⟨.tip t, h1⟩
end
end Go.AM
