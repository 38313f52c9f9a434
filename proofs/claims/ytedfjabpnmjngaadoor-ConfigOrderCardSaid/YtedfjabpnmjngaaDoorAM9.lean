/- Each operation of the abstract machine, held against the kit's: places, slices, comparisons. -/
import Derived.Test.YtedfjabpnmjngaaDoorAM8
set_option linter.unusedSimpArgs false
set_option linter.unusedVariables false
namespace Go.AM
open Go Go.RowKit

section
variable {P : Program} {E : World → Prop} {base : Nat} {σ : Sim} {w : World} {H : Heap}

theorem Lies.drop {g o : Nat} {vs : List Value} (h : Lies σ w g o vs) (n : Nat) : Lies σ w g (o + n) (vs.drop n) := fun j v hj => by
  rw [List.getElem?_drop] at hj
  have := h (n + j) v hj
  rwa [show o + n + j = o + (n + j) by omega]
theorem Lies.take {g o : Nat} {vs : List Value} (h : Lies σ w g o vs) (n : Nat) : Lies σ w g o (vs.take n) := fun j v hj => by
  rw [List.getElem?_take] at hj
  split at hj
  · exact h j v hj
  · cases hj

theorem fieldOf_spec {s : TypeId} {fi : Nat} {fd : Field} (h : fieldOf? P s fi = some fd) : ∃ fields, P.underlying s = some (.struct fields) ∧ fields[fi]? = some fd := by
  unfold fieldOf? at h
  split at h
  · exact ⟨_, by assumption, h⟩
  · cases h
theorem arrayOf_spec {t : TypeId} {n : Nat} {e : TypeId} (h : arrayOf? P t = some (n, e)) : P.underlying t = some (.array n e) := by
  unfold arrayOf? at h
  split at h
  · rename_i hu; cases h; exact hu
  · cases h

theorem fieldAddr_good {s : TypeId} {fi : Nat} {x : AV} {u : Value} (hx : Vr σ w x u) {v : AV} (h : fieldAddrA P s x fi = some v) : ∃ r, (Instr.fieldAt s u fi).run P w = .ok r w ∧ Vr σ w v r := by
  unfold fieldAddrA at h
  split at h
  case h_2 => cases h
  rename_i fd hfd
  obtain ⟨fields, hs, hf⟩ := fieldOf_spec hfd
  split at h
  case h_2 => cases h
  rename_i n hn
  split at h
  case isTrue => cases h
  rename_i h0
  have key : ∀ g off, (Instr.fieldAt s (.pointer (some ⟨g, off, none⟩)) fi).run P w = .ok (.pointer (some ⟨g, off + fd.offset, none⟩)) w := fun g off => by
    simp [Instr.fieldAt, run_underlying hs, hf, Instr.sureAddr, fieldPlace, sizeOf_run hn, h0, add_spot]
  cases hx <;> try (cases h; done)
  · cases h; exact ⟨_, key _ _, .ptr (by assumption)⟩
  · rename_i cs g o vs hlies hv h1
    simp only at h
    split at h
    · cases h; exact ⟨_, key _ _, .rptr (hlies.drop _) (hv.drop _) (oneL_drop h1 _)⟩
    · cases h

theorem indexSlice_run {t e : TypeId} {kk : IntKind} {i k g o n c : Nat} (ht : P.underlying t = some (.slice e)) (hk : sizeOf? P e = some k) (hin : i < n) :
    (Instr.indexAt t (.slice (some ⟨g, o, none⟩) n c) (.int kk i)).run P w = .ok (.pointer (some ⟨g, o + i * k, none⟩)) w := by
  simp [Instr.indexAt, asIntOf, run_underlying ht, hin, sizeOf_run hk, add_spot]
theorem indexArray_run {t e : TypeId} {kk : IntKind} {i k g o len : Nat} (ht : P.underlying t = some (.array len e)) (hk : sizeOf? P e = some k) (hin : i < len) :
    (Instr.indexAt t (.pointer (some ⟨g, o, none⟩)) (.int kk i)).run P w = .ok (.pointer (some ⟨g, o + i * k, none⟩)) w := by
  simp [Instr.indexAt, asIntOf, run_underlying ht, Instr.sureAddr, hin, sizeOf_run hk, add_spot]

theorem indexAddr_good {t : TypeId} {x ix : AV} {u iu : Value} (hx : Vr σ w x u) (hi : Vr σ w ix iu) {i : Nat} (hin : natOf ix = some i) {v : AV} (h : indexAddrA P t x i = some v) :
    ∃ r, (Instr.indexAt t u iu).run P w = .ok r w ∧ Vr σ w v r := by
  obtain ⟨kk, rfl⟩ := natOf_vr hin hi
  unfold indexAddrA at h
  cases hx <;> try (cases h; done)
  case slice r k cells n g o c vs hl hc hlies hv h1 hr =>
    simp only at h
    split at h
    case h_2 => cases h
    rename_i e he
    split at h
    case isFalse => cases h
    rename_i hcond
    cases h
    exact ⟨_, indexSlice_run (elemOf_spec he) hcond.2 hcond.1, .rptr (hlies.drop _) (hv.drop _) (oneL_drop h1 _)⟩
  case hsl b k off n g cap c hφ hc h0 =>
    simp only at h
    split at h
    case h_2 => cases h
    rename_i e he
    split at h
    case isFalse => cases h
    rename_i hcond
    cases h
    exact ⟨_, indexSlice_run (elemOf_spec he) hcond.2 hcond.1, .ptr hφ⟩
  case ptr b off g cap hφ =>
    simp only at h
    split at h
    case h_2 => cases h
    rename_i len e he
    split at h
    case h_2 => cases h
    rename_i k hk
    split at h
    case isFalse => cases h
    rename_i hl
    cases h
    exact ⟨_, indexArray_run (arrayOf_spec he) hk hl, .ptr hφ⟩
  case rptr cs g o vs hlies hv h1 =>
    simp only at h
    split at h
    case h_2 => cases h
    rename_i len e he
    split at h
    case h_2 => cases h
    rename_i k hk
    split at h
    case isFalse => cases h
    rename_i hl
    cases h
    exact ⟨_, indexArray_run (arrayOf_spec he) hk hl, .rptr (hlies.drop _) (hv.drop _) (oneL_drop h1 _)⟩

/-- A part of a value. -/
theorem part_run {t : TypeId} {cs : List AV} {off : Nat} {v : AV} (h : takeVar P t (cs.drop off) = some v) {vs : Array Value} (hv : VrL σ w cs vs.toList) (h1 : oneL cs = true) :
    ∃ u, (part t vs off).run P w = .ok u w ∧ Vr σ w v u := by
  unfold takeVar at h
  have hlen := hv.length
  simp only [Array.length_toList] at hlen
  split at h
  · rename_i n ha hs
    split at h
    · rename_i hn
      cases h
      refine ⟨.agg (vs.extract off (off + n)), by simp [part, isAgg_run ha, sizeOf_run hs], .agg ?_ (oneL_take (oneL_drop h1 _) _)⟩
      have := (hv.drop off).take n
      have e : (vs.extract off (off + n)).toList = (vs.toList.drop off).take n := by simp [List.extract_eq_take_drop]
      rw [e]; exact this
    · cases h
  · rename_i n ha hs
    have hx : cs[off]? = some v := by simpa [List.head?_drop] using h
    obtain ⟨u, hu, hr⟩ := hv.get hx
    refine ⟨u, ?_, hr⟩
    have hu' : vs[off]? = some u := by simpa using hu
    simp [part, isAgg_run ha, hu']
  · cases h

theorem field_good {t : TypeId} {fi : Nat} {x : AV} {u : Value} (hx : Vr σ w x u) {v : AV} (h : fieldA P t x fi = some v) : ∃ r, (Instr.field t u fi).run P w = .ok r w ∧ Vr σ w v r := by
  unfold fieldA at h
  split at h
  case h_2 => cases h
  rename_i fd cs hfd
  obtain ⟨fields, hs, hf⟩ := fieldOf_spec hfd
  cases hx with
  | agg hv h1 =>
    obtain ⟨r, hr, hvr⟩ := part_run h hv h1
    exact ⟨r, by simpa [Instr.field, run_underlying hs, hf, asAgg] using hr, hvr⟩

theorem index_good {t : TypeId} {x ix : AV} {u iu : Value} (hx : Vr σ w x u) (hi : Vr σ w ix iu) {i : Nat} (hin : natOf ix = some i) {v : AV} (h : indexA P t x i = some v) :
    ∃ r, (Instr.index t u iu).run P w = .ok r w ∧ Vr σ w v r := by
  obtain ⟨kk, rfl⟩ := natOf_vr hin hi
  unfold indexA at h
  cases hx <;> try (cases h; done)
  case str s =>
    simp only at h
    split at h
    case h_2 => cases h
    rename_i b ht hb
    cases h
    have hlt : i < s.size := by have := (List.getElem?_eq_some_iff.1 hb).1; simpa using this
    have hget : s[i]? = some b := by
      rw [show s[i]? = some s[i] from by simp [hlt]]
      have := (List.getElem?_eq_some_iff.1 hb).2
      simp at this
      exact congrArg some this
    exact ⟨.int .u8 b.toNat, by simp [Instr.index, asIntOf, run_underlying ht, hget], .int _ _⟩
  case agg cs vs hv h1 =>
    simp only at h
    split at h
    case h_2 => cases h
    rename_i len e he
    split at h
    case h_2 => cases h
    rename_i k hk
    split at h
    case isFalse => cases h
    rename_i hl
    obtain ⟨r, hr, hvr⟩ := part_run h hv h1
    exact ⟨r, by simpa [Instr.index, asIntOf, run_underlying (arrayOf_spec he), hl, sizeOf_run hk] using hr, hvr⟩

theorem nilEq_run {t : TypeId} {x y : AV} {u v : Value} (hx : Vr σ w x u) (hy : Vr σ w y v) {b : Bool} (h : nilEq P t x y = some b) : (Op.equal t u v).run P w = .ok b w := by
  unfold nilEq at h
  split at h
  · rename_i hc
    obtain ⟨h1, h2, h3⟩ := hc
    unfold nilType at h1 h2 h3
    have go : ∀ n, (Op.equalIn (n + 1) t u v).run P w = .ok b w := by
      intro n
      cases ht : P.underlying t with
      | none => rw [ht] at h3; cases h3
      | some d =>
        rw [ht] at h1 h2 h3
        cases d <;> simp only at h1 h2 h3 <;> (try (cases h3; done)) <;>
          cases hx <;> simp [nilKind] at h1 <;> cases hy <;> simp [nilKind] at h2 <;> simp [nilSide] at h <;> subst h <;> simp [Op.equalIn, run_underlying ht]
    exact go 9999
  · cases h

theorem bool_run {op : BinOp} {t : TypeId} {u v : Value} {b : Bool} (hop : op = .eql ∨ op = .neq) (h : (Op.equal t u v).run P w = .ok b w)
    (hu : ∀ k n, u ≠ .int k n) (hu2 : ∀ s, u ≠ .string s) (hu3 : ∀ k n, u ≠ .float k n) (hu4 : ∀ k a c, u ≠ .complex k a c) :
    (Go.binOp op t u v).run P w = .ok (.bool (if op = .eql then b else !b)) w := by
  rcases hop with rfl | rfl <;> cases u <;> first
    | exact absurd rfl (hu _ _)
    | exact absurd rfl (hu2 _)
    | exact absurd rfl (hu3 _ _)
    | exact absurd rfl (hu4 _ _ _)
    | simp [Go.binOp, h]

theorem binOp_good {op : BinOp} {t : TypeId} {ox oy : Operand} {x y : AV} {u v : Value} (hx : Vr σ w x u) (hy : Vr σ w y v) {r : AV} (h : binOpA P op t ox oy x y = some r) :
    ∃ s, ((do eqGuard op t ox oy u v; Go.binOp op t u v : Sem Value)).run P w = .ok s w ∧ Vr σ w r s := by
  unfold binOpA at h
  split at h
  · rename_i vx vy h1 h2
    have e1 := toV_eq hx h1
    have e2 := toV_eq hy h2
    subst e1; subst e2
    split at h
    case h_2 => cases h
    rename_i un hg
    cases hb : pureAt P (Go.binOp op t u v) with
    | none => rw [hb] at h; cases h
    | some s =>
      rw [hb] at h
      exact ⟨s, by simp only [Sem.run_bind, pureAt_run _ hg, Result.andThen_ok, pureAt_run _ hb], ofV_vr h⟩
  · rename_i hno
    have main : ∀ b : Bool, nilEq P t x y = some b → (op = .eql ∨ op = .neq) → ((do eqGuard op t ox oy u v; Go.binOp op t u v : Sem Value)).run P w = .ok (.bool (if op = .eql then b else !b)) w := by
      intro b hb hop
      have hq := nilEq_run hx hy hb
      have hkinds : (nilKind x).isSome ∧ (nilKind y).isSome := by
        unfold nilEq at hb
        split at hb
        · rename_i hc; rw [hc.1, hc.2.1]; exact ⟨hc.2.2, hc.2.2⟩
        · cases hb
      have hg : (eqGuard op t ox oy u v).run P w = .ok () w := by
        have h3 : ¬ (toV x = some .nilIface ∧ toV y = some .nilIface) := fun ⟨ha, hb'⟩ => hno _ _ ha hb'
        cases hx <;> simp [nilKind] at hkinds <;> cases hy <;> simp [nilKind] at hkinds <;> first
          | (exact absurd ⟨rfl, rfl⟩ h3)
          | (rcases hop with rfl | rfl <;> simp [eqGuard])
      have := bool_run (P := P) (w := w) (t := t) (u := u) (v := v) hop hq (by cases hx <;> simp [nilKind] at hkinds <;> simp) (by cases hx <;> simp [nilKind] at hkinds <;> simp) (by cases hx <;> simp) (by cases hx <;> simp)
      simp only [Sem.run_bind, hg, Result.andThen_ok, this]
    split at h
    · cases hb : nilEq P t x y with
      | none => rw [hb] at h; cases h
      | some b => rw [hb] at h; cases h; exact ⟨_, main b hb (.inl rfl), by simpa using Vr.bool b⟩
    · cases hb : nilEq P t x y with
      | none => rw [hb] at h; cases h
      | some b => rw [hb] at h; cases h; exact ⟨_, main b hb (.inr rfl), by simpa using Vr.bool (!b)⟩
    · cases h
end
end Go.AM
