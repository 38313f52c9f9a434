/- Each operation of the abstract machine, held against the kit's: append and copy. -/
import Derived.Test.YtedfjabpnmjngaaDoorAM6
set_option linter.unusedSimpArgs false
set_option linter.unusedVariables false
namespace Go.AM
open Go Go.RowKit

section
variable {P : Program} {E : World → Prop} {base : Nat} {σ : Sim} {w : World} {H : Heap}

theorem bytesCells_vr (s : ByteArray) : VrL σ w (bytesCells s) (s.data.toList.map fun b => Value.int .u8 b.toNat) ∧ oneL (bytesCells s) = true := by
  unfold bytesCells
  generalize s.data.toList = l
  induction l with
  | nil => exact ⟨.nil, rfl⟩
  | cons b l ih => exact ⟨.cons (.int _ _) ih.1, by have := ih.2; simp only [oneL] at *; simp [AV.one, this]⟩

/-- What is read of a slice, or of a string. -/
structure Source (P : Program) (σ : Sim) (w : World) (k : Nat) (xs : List AV) (m : Nat) (u : Value) (vs : List Value) : Prop where
  vr : VrL σ w xs vs
  one : oneL xs = true
  len : vs.length = m * k
  lenOf : ∀ w', (Builtin.lenOf u).run P w' = .ok m w'
  first : ∀ w' : World, w'.heap = w.heap → ∀ q, q ≤ m → (Builtin.firstCells k q u).run P w' = .ok (vs.take (q * k)).toArray w'

theorem source_of (hR : Rep E base σ w H) {k : Nat} {x : AV} {u : Value} (hx : Vr σ w x u) {xs : List AV} {m : Nat} (h : sliceCells k H x = some (xs, m)) : ∃ vs, Source P σ w k xs m u vs := by
  have cellq : ∀ {w' : World} (_ : w'.heap = w.heap) (a : Addr), w'.cell? a = w.cell? a := fun h a => by simp [World.cell?, h]
  have loadq : ∀ {g o q : Nat} {vs : List Value}, (∀ j v, vs[j]? = some v → w.cell? ⟨g, o + j, none⟩ = some v) → q * k ≤ vs.length → ∀ w' : World, w'.heap = w.heap → (loadCells ⟨g, o, none⟩ (q * k)).run P w' = .ok (vs.take (q * k)).toArray w' := by
    intro g o q vs hv hq w' hw
    have := run_loadCells_list (P := P) w' ⟨g, o, none⟩ (vs.take (q * k)) (fun j x hx => by
      rw [add_spot, cellq hw]
      rw [List.getElem?_take] at hx
      split at hx
      · exact hv j x hx
      · cases hx)
    rwa [show (vs.take (q * k)).length = q * k by simp; omega] at this
  cases hx <;> try (simp [sliceCells] at h; done)
  case str s =>
    simp only [sliceCells] at h
    split at h
    · rename_i hk; subst hk
      simp only [Option.some.injEq, Prod.mk.injEq] at h
      obtain ⟨rfl, rfl⟩ := h
      obtain ⟨h1, h2⟩ := bytesCells_vr (σ := σ) (w := w) s
      refine ⟨_, h1, h2, by simp, fun _ => rfl, fun w' _ q hq => ?_⟩
      simp only [Builtin.firstCells, Nat.mul_one]
      have : ((s.extract 0 q).data.map fun b => Value.int .u8 b.toNat) = ((s.data.toList.map fun b => Value.int .u8 b.toNat).take q).toArray := by
        apply Array.ext'
        simp [ByteArray.extract, ByteArray.copySlice]
      rw [← this]; rfl
    · cases h
  case nilSlice =>
    simp only [sliceCells, Option.some.injEq, Prod.mk.injEq] at h
    obtain ⟨rfl, rfl⟩ := h
    exact ⟨[], .nil, rfl, by simp, fun _ => rfl, fun w' _ q hq => by simp [Builtin.firstCells]⟩
  case slice r k' cells n g o c vs hl hc hlies hv h1 hr =>
    simp only [sliceCells] at h
    split at h
    · rename_i hk; subst hk
      simp only [Option.some.injEq, Prod.mk.injEq] at h
      obtain ⟨rfl, rfl⟩ := h
      have hlv := hv.length
      refine ⟨vs, hv, h1, by omega, fun _ => rfl, fun w' hw q hq => ?_⟩
      exact loadq (fun j v hj => (hlies j v hj).1) (by rw [← hlv, hl]; exact Nat.mul_le_mul_right _ hq) w' hw
    · cases h
  case hsl b k' off n g cap c hφ hc h0 =>
    simp only [sliceCells] at h
    split at h
    · rename_i hk; subst hk
      cases hb : H.objs b with
      | row e k'' cs =>
        rw [hb] at h
        simp only at h
        split at h
        · rename_i hcond
          obtain ⟨rfl, hfit⟩ := hcond
          simp only [Option.some.injEq, Prod.mk.injEq] at h
          obtain ⟨rfl, rfl⟩ := h
          obtain ⟨vs, hv, h1, hcell⟩ := hR.behind (off := off) hφ (.inr ⟨e, _, hb⟩)
          have hlv := hv.length
          simp only [List.length_drop] at hlv
          refine ⟨vs.take (n * k''), hv.take _, oneL_take h1 _, by rw [List.length_take]; omega, fun _ => rfl, fun w' hw q hq => ?_⟩
          have hqn : q * k'' ≤ n * k'' := Nat.mul_le_mul_right _ hq
          exact loadq (fun j v hj => by
            rw [List.getElem?_take] at hj
            split at hj
            · exact hcell j v hj
            · cases hj) (by rw [List.length_take]; omega) w' hw
        · cases h
      | _ => rw [hb] at h; cases h
    · cases h

section runs
variable {t t' ty e : TypeId} {i : TypeInfo} {z : Value} {d' : TypeDesc} {u : Value} {xs : List AV} {m : Nat} {news : List Value}

theorem noInt (d : TypeDesc) (h : (match d with | .int _ => false | _ => true) = true) : (match d with | .int _ => true | _ => false) = false := by
  cases d <;> simp_all

set_option maxHeartbeats 4000000 in
theorem append_room_run (ht : P.underlying t = some (.slice e)) (hi : P.info? e = some i) (ht' : srcOk P t' = true) (hs : Source P σ w i.size xs m u news) (h1 : ∀ v ∈ news, v.oneCell' = true)
    {g n c : Nat} {cur : Array Value} (hg : w.heap[g]? = some (.cells cur e (0, 0))) (hroom : n + m ≤ c) (hfit : n * i.size + news.length ≤ cur.size) :
    (Builtin.append_ #[t, t'] ty #[.slice (some ⟨g, 0, none⟩) n c, u]).run P w =
      .ok (.slice (some ⟨g, 0, none⟩) (n + m) c) (w.setRow g (cur.toList.take (n * i.size) ++ news ++ cur.toList.drop (n * i.size + news.length)).toArray) := by
  have hst := run_storeCells_at P g (n * i.size) e news 0 cur w hg (by simpa using hfit) h1
  simp only [Nat.add_zero] at hst
  have hf := hs.first w rfl m (Nat.le_refl _)
  rw [List.take_of_length_le (by rw [hs.len]; exact Nat.le_refl _)] at hf
  have hsz := sizeOf_run (P := P) (t := e) (n := i.size) (by simp [sizeOf?, hi]) w
  unfold srcOk at ht'
  cases hu : P.underlying t' with
  | none => rw [hu] at ht'; cases ht'
  | some d =>
    rw [hu] at ht'
    cases d <;> first
      | (simp at ht'; done)
      | (simp [Builtin.append_, run_underlying ht, run_underlying hu, hsz, hs.lenOf, hroom, hf, add_spot, hst, Result.andThen])

set_option maxHeartbeats 4000000 in
theorem append_grow_run (ht : P.underlying t = some (.slice e)) (hi : P.info? e = some i) (hz : i.zero = some z) (ht' : srcOk P t' = true) (hs : Source P σ w i.size xs m u news)
    {base' : Option Addr} {n c : Nat} {olds : List Value} (hold : ∀ w' : World, w'.heap = w.heap → (Builtin.firstCells i.size n (.slice base' n c)).run P w' = .ok olds.toArray w')
    (hg : c < n + m) (hb : (n + m) * i.bytes ≤ 140737488355328) (h63 : n + m ≤ 9223372036854775807) :
    (Builtin.append_ #[t, t'] ty #[.slice base' n c, u]).run P w =
      .ok (.slice (some ⟨w.heap.size, 0, none⟩) (n + m) (grownCap w (n + m) c e)) (w.drew.alloc (.cells (olds.toArray ++ news.toArray ++ Builtin.zeroCells z.cells (grownCap w (n + m) c e - (n + m))) e)) := by
  have hsz := sizeOf_run (P := P) (t := e) (n := i.size) (by simp [sizeOf?, hi]) w
  have hn : ¬ (n + m ≤ c) := by omega
  have h63' : ¬ (9223372036854775807 < ((n : Int) + (m : Int))) := by omega
  have h48 : ¬ (281474976710656 < Builtin.nextslicecap (n + m) c * i.bytes) := by have := growslice_fits (old := c) (need := n + m) hg hb; omega
  have hf := hs.first w.drew rfl m (Nat.le_refl _)
  rw [List.take_of_length_le (by rw [hs.len]; exact Nat.le_refl _)] at hf
  have ho := hold w.drew rfl
  unfold srcOk at ht'
  cases hu : P.underlying t' with
  | none => rw [hu] at ht'; cases ht'
  | some d =>
    rw [hu] at ht'
    cases d <;> first
      | (simp at ht'; done)
      | (simp [Builtin.append_, run_underlying ht, run_underlying hu, sizeOf, typeInfo, zeroValue, hi, hz, hs.lenOf, hn, h63', h48, Question.forced, hf, ho, newRow, grownCap]
         congr 2
         apply Array.ext'
         simp [List.append_assoc])
end runs
set_option maxHeartbeats 4000000 in
theorem append_zero_run {t t' ty e : TypeId} {i : TypeInfo} {u : Value} {xs : List AV} {m : Nat} {news : List Value} (ht : P.underlying t = some (.slice e)) (hi : P.info? e = some i) (ht' : srcOk P t' = true) (hs : Source P σ w i.size xs m u news)
    (hm : m = 0) {b : Option Addr} {n c : Nat} (hnc : n ≤ c) : (Builtin.append_ #[t, t'] ty #[.slice b n c, u]).run P w = .ok (.slice b n c) w := by
  subst hm
  have hf := hs.first w rfl 0 (Nat.le_refl _)
  rw [Nat.zero_mul, List.take_zero] at hf
  have hl := hs.lenOf
  unfold srcOk at ht'
  cases hu : P.underlying t' with
  | none => rw [hu] at ht'; cases ht'
  | some d =>
    rw [hu] at ht'
    cases b <;> cases d <;> first
      | (simp at ht'; done)
      | (simp [Builtin.append_, run_underlying ht, run_underlying hu, sizeOf, typeInfo, hi, hl, hnc, hf, storeCells])

end
end Go.AM
