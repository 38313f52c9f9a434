/- Each operation of the abstract machine, held against the kit's: the rest. -/
import Derived.Test.YtedfjabpnmjngaaDoorAM9
set_option linter.unusedSimpArgs false
set_option linter.unusedVariables false
namespace Go.AM
open Go Go.RowKit

section
variable {P : Program} {E : World → Prop} {base : Nat} {σ : Sim} {w : World} {H : Heap}

def OptR (σ : Sim) (w : World) : Option AV → Option Value → Prop
  | none, none => True
  | some x, some v => Vr σ w x v
  | _, _ => False


theorem sliceBound_run {k : IntKind} {i y : Nat} {code : BoundsCode} (h : i ≤ y) : (Instr.sliceBound (.int k i) y code).run P w = .ok i w := by
  have := run_sliceBound (P := P) w k i y code (by omega) (by omega)
  simpa using this

theorem sliceBounds_run {b : Bool} {len cap l h m : Nat} {lo hi mx : Option AV} {lov hiv mxv : Option Value} (hlo : OptR σ w lo lov) (hhi : OptR σ w hi hiv) (hmx : OptR σ w mx mxv)
    (h1 : boundA 0 lo = some l) (h2 : boundA len hi = some h) (h3 : boundA cap mx = some m) (hlh : l ≤ h) (hhm : h ≤ m) (hmc : m ≤ cap) (hno : mx.isSome → hi.isSome) :
    (Instr.sliceBounds b len cap lov hiv mxv).run P w = .ok (l, h, m) w := by
  have num : ∀ {x : AV} {v : Value} {n : Nat}, Vr σ w x v → natOf x = some n → ∃ k, v = .int k n := fun hx hn => natOf_vr hn hx
  cases mx with
  | none =>
    cases mxv with
    | some _ => exact hmx.elim
    | none =>
      simp only [boundA, Option.some.injEq] at h3
      subst h3
      cases hi with
      | none =>
        cases hiv with
        | some _ => exact hhi.elim
        | none =>
          simp only [boundA, Option.some.injEq] at h2
          subst h2
          cases lo with
          | none => cases lov with
            | some _ => exact hlo.elim
            | none => simp only [boundA, Option.some.injEq] at h1; subst h1; simp [Instr.sliceBounds]
          | some x => cases lov with
            | none => exact hlo.elim
            | some v => obtain ⟨k, rfl⟩ := num hlo h1; simp [Instr.sliceBounds, sliceBound_run hlh]
      | some y =>
        cases hiv with
        | none => exact hhi.elim
        | some v =>
          obtain ⟨k, rfl⟩ := num hhi h2
          cases lo with
          | none => cases lov with
            | some _ => exact hlo.elim
            | none => simp only [boundA, Option.some.injEq] at h1; subst h1; simp [Instr.sliceBounds, sliceBound_run hhm]
          | some x => cases lov with
            | none => exact hlo.elim
            | some v => obtain ⟨k, rfl⟩ := num hlo h1; simp [Instr.sliceBounds, sliceBound_run hlh, sliceBound_run hhm]
  | some z =>
    cases mxv with
    | none => exact hmx.elim
    | some zv =>
      obtain ⟨kz, rfl⟩ := num hmx h3
      cases hi with
      | none => simp at hno
      | some y =>
        cases hiv with
        | none => exact hhi.elim
        | some v =>
          obtain ⟨k, rfl⟩ := num hhi h2
          cases lo with
          | none => cases lov with
            | some _ => exact hlo.elim
            | none => simp only [boundA, Option.some.injEq] at h1; subst h1; simp [Instr.sliceBounds, sliceBound_run hhm, sliceBound_run hmc]
          | some x => cases lov with
            | none => exact hlo.elim
            | some v => obtain ⟨k, rfl⟩ := num hlo h1; simp [Instr.sliceBounds, sliceBound_run hlh, sliceBound_run hhm, sliceBound_run hmc]

theorem sliceAt_slice_run {t e : TypeId} (ht : P.underlying t = some (.slice e)) {k : Nat} (hk : sizeOf? P e = some k) {a : Option Addr} {n c l h m : Nat} {lov hiv mxv : Option Value}
    (hb : (Instr.sliceBounds true n c lov hiv mxv).run P w = .ok (l, h, m) w) :
    (Instr.sliceAt t (.slice a n c) lov hiv mxv).run P w = .ok (.slice (if m = l then a else a.map (·.add (l * k))) (h - l) (m - l)) w := by
  simp only [Instr.sliceAt, Instr.slice, Sem.run_bind, run_underlying ht, Result.andThen_ok, hb, sizeOf_run hk, Sem.run_pure]

theorem slice_good {t : TypeId} {x : AV} {u : Value} (hx : Vr σ w x u) {lo hi mx : Option AV} {lov hiv mxv : Option Value} (hlo : OptR σ w lo lov) (hhi : OptR σ w hi hiv) (hmx : OptR σ w mx mxv)
    {v : AV} (h : sliceA P t x lo hi mx = some v) : ∃ r, (Instr.sliceAt t u lov hiv mxv).run P w = .ok r w ∧ Vr σ w v r := by
  unfold sliceA at h
  cases hx <;> try (cases h; done)
  case str s =>
    simp only at h
    split at h
    case h_2 => cases h
    rename_i l hh ht h1 h2
    split at h
    case isFalse => cases h
    rename_i hc
    cases h
    cases mxv with
    | some _ => exact hmx.elim
    | none =>
      have hb := sliceBounds_run (P := P) (b := false) (len := s.size) (cap := s.size) (mx := none) (mxv := none) hlo hhi trivial h1 h2 rfl hc.1 hc.2 (Nat.le_refl _) (by simp)
      exact ⟨.string (s.extract l hh), by simp [Instr.sliceAt, Instr.slice, run_underlying ht, hb], .str _⟩
  case nilSlice =>
    simp only at h
    split at h
    case h_2 => cases h
    rename_i e he h1 h2 h3
    split at h
    case isFalse => cases h
    rename_i hsz
    cases h
    have ht := elemOf_spec he
    have hb := sliceBounds_run (P := P) (b := true) (len := 0) (cap := 0) hlo hhi hmx h1 h2 h3 (Nat.le_refl _) (Nat.le_refl _) (Nat.le_refl _) hsz.2
    obtain ⟨k, hk⟩ := Option.isSome_iff_exists.1 hsz.1
    exact ⟨_, sliceAt_slice_run ht hk hb, by simpa using Vr.nilSlice⟩
  case slice r k cells n g o c vs hl hc hlies hv h1' hr =>
    simp only at h
    split at h
    case h_2 => cases h
    rename_i e l hh he h1 h2
    split at h
    case isFalse => cases h
    rename_i hcond
    obtain ⟨hk, hlh, hhn⟩ := hcond
    have ht := elemOf_spec he
    have hlen : ((cells.drop (l * k)).take ((hh - l) * k)).length = (hh - l) * k := by
      rw [List.length_take, List.length_drop, hl]
      have : l * k + (hh - l) * k ≤ n * k := by rw [← Nat.add_mul]; exact Nat.mul_le_mul_right _ (by omega)
      omega
    -- the part itself, where the place is given
    have there : ∀ (c' : Nat) (r' : Right), hh - l ≤ c' → RightOk σ r' g (o + l * k) k (hh - l) c' →
        Vr σ w (.slice r' k ((cells.drop (l * k)).take ((hh - l) * k)) (hh - l)) (.slice (some ⟨g, o + l * k, none⟩) (hh - l) c') := fun c' r' hc' hr' =>
      .slice hlen hc' ((hlies.drop _).take _) ((hv.drop _).take _) (oneL_take (oneL_drop h1' _) _) hr'
    have none_ : ∀ (c' : Nat) (r' : Right), hh - l = 0 → RightOk σ r' g o k (hh - l) c' →
        Vr σ w (.slice r' k ((cells.drop (l * k)).take ((hh - l) * k)) (hh - l)) (.slice (some ⟨g, o, none⟩) (hh - l) c') := fun c' r' h0 hr' => by
      have e0 : (cells.drop (l * k)).take ((hh - l) * k) = [] := by rw [h0]; simp
      rw [e0]
      exact .slice (by rw [h0]; simp) (by omega) (vs := []) (fun j v hj => by simp at hj) .nil rfl hr'
    cases mx with
    | none =>
      cases mxv with
      | some _ => exact hmx.elim
      | none =>
        cases h
        have hb := sliceBounds_run (P := P) (b := true) (len := n) (cap := c) (mx := none) (mxv := none) hlo hhi trivial h1 h2 rfl hlh (by omega) (Nat.le_refl _) (by simp)
        refine ⟨_, sliceAt_slice_run ht hk hb, ?_⟩
        by_cases hl0 : l = 0 ∧ hh = n
        · rw [if_pos hl0]
          obtain ⟨rfl, rfl⟩ := hl0
          have hr' : RightOk σ r g (o + 0 * k) k (hh - 0) (c - 0) := by simpa using hr
          split
          · have := there (c - 0) r (by omega) hr'
            simpa using this
          · simp only [Option.map_some, add_spot]
            exact there (c - 0) r (by omega) hr'
        · rw [if_neg hl0]
          by_cases hcl : c = l
          · rw [if_pos hcl]; exact none_ _ _ (by omega) trivial
          · rw [if_neg hcl]
            simp only [Option.map_some, add_spot]
            exact there _ _ (by omega) trivial
    | some y =>
      cases mxv with
      | none => exact hmx.elim
      | some yv =>
        simp only at h
        split at h
        case isFalse => cases h
        rename_i hy
        cases h
        have hb := sliceBounds_run (P := P) (b := true) (len := n) (cap := c) (mx := some y) (mxv := some yv) hlo hhi hmx h1 h2 hy.1 hlh (Nat.le_refl _) (by omega) (fun _ => hy.2)
        refine ⟨_, sliceAt_slice_run ht hk hb, ?_⟩
        by_cases hcl : hh = l
        · rw [if_pos hcl]
          exact none_ _ _ (by omega) rfl
        · rw [if_neg hcl]
          simp only [Option.map_some, add_spot]
          exact there _ _ (Nat.le_refl _) rfl
  case hsl b k off n g cap c hφ hc h0 =>
    simp only at h
    split at h
    case h_2 => cases h
    rename_i e l hh he h1 h2
    split at h
    case isFalse => cases h
    rename_i hcond
    obtain ⟨hk, hlh, hhn, hl⟩ := hcond
    cases h
    cases mxv with
    | some _ => exact hmx.elim
    | none =>
      have ht := elemOf_spec he
      have hb := sliceBounds_run (P := P) (b := true) (len := n) (cap := c) (mx := none) (mxv := none) hlo hhi trivial h1 h2 rfl hlh (by omega) (Nat.le_refl _) (by simp)
      refine ⟨_, sliceAt_slice_run ht hk hb, ?_⟩
      rcases hl with rfl | ⟨hln, hk0⟩
      · have := Vr.hsl (σ := σ) (w := w) (k := k) (n := hh - 0) (c := c - 0) hφ (by omega) (fun hz => by rw [Nat.sub_zero]; exact h0 hz)
        split
        · simpa using this
        · simpa [add_spot] using this
      · rw [if_neg (by omega)]
        simp only [Option.map_some, add_spot]
        refine .hsl hφ (by omega) (fun hz => ?_)
        have : 0 < l ∨ l = 0 := by omega
        rcases this with h3 | h3
        · have := Nat.mul_pos h3 hk0; omega
        · subst h3; simp at hz; rw [Nat.sub_zero]; exact h0 hz

theorem pick_good {c : AV} {cu xu yu : Value} {ex ey : Option AV} (hc : Vr σ w c cu) (hx : ∀ v, ex = some v → Vr σ w v xu) (hy : ∀ v, ey = some v → Vr σ w v yu) {v : AV} (h : pickA c ex ey = some v) :
    ∃ r, ((do pure (if ← asBool cu then xu else yu) : Sem Value)).run P w = .ok r w ∧ Vr σ w v r := by
  unfold pickA at h
  split at h
  · cases hc; exact ⟨xu, by simp [asBool], hx v h⟩
  · cases hc; exact ⟨yu, by simp [asBool], hy v h⟩
  · cases h

theorem extract_good {vs : List AV} {u : Value} (hx : Vr σ w (.tuple vs) u) {i : Nat} {v : AV} (h : vs[i]? = some v) : ∃ r, (Instr.extract u i).run P w = .ok r w ∧ Vr σ w v r := by
  cases hx with
  | tuple hv =>
    obtain ⟨r, hr, hvr⟩ := hv.get h
    refine ⟨r, ?_, hvr⟩
    have hr' := hr
    rw [Array.getElem?_toList] at hr'
    simp [Instr.extract, hr']

theorem makeInterface_good {t : TypeId} {x : AV} {u : Value} (hx : Vr σ w x u) {v : AV} (h : makeInterfaceA P t x = some v) : ∃ r, (Instr.makeInterface t u).run P w = .ok r w ∧ Vr σ w v r := by
  unfold makeInterfaceA at h
  split at h
  · cases h
  · rename_i d hno hu
    cases h
    refine ⟨.iface t u, ?_, .iface hx⟩
    simp only [Instr.makeInterface, Sem.run_bind, run_underlying hu, Result.andThen_ok]
    rfl
  · cases h

theorem typeAssert_good {xt asserted : TypeId} {ok : Bool} {x : AV} {u : Value} (hx : Vr σ w x u) {v : AV} (h : typeAssertA P x asserted ok = some v) : ∃ r, (Instr.typeAssert u xt asserted ok).run P w = .ok r w ∧ Vr σ w v r := by
  unfold typeAssertA at h
  split at h
  · cases h
  · rename_i d hno hu
    have zero : ∀ z, zeroVal P asserted = some z → ∃ zv, (zeroValue asserted).run P w = .ok zv w ∧ Vr σ w z zv := fun z hz => by
      obtain ⟨i, zv, hi, hzv, hof⟩ := zeroVal_spec hz
      exact ⟨zv, zeroValue_run hi hzv w, ofV_vr hof⟩
    cases hx <;> try (cases h; done)
    case iface t v' x' hv =>
      simp only at h
      split at h
      · rename_i hta
        cases h
        cases ok with
        | true => exact ⟨.tuple #[x', .bool true], by cases d <;> first | exact absurd rfl (hno _) | simp [Instr.typeAssert, run_underlying hu, hta], .tuple (.cons hv (.cons (.bool _) .nil))⟩
        | false => exact ⟨x', by cases d <;> first | exact absurd rfl (hno _) | simp [Instr.typeAssert, run_underlying hu, hta], by simpa using hv⟩
      · rename_i hta
        split at h
        · rename_i hok
          cases hz : zeroVal P asserted with
          | none => rw [hz] at h; cases h
          | some z =>
            rw [hz] at h; cases h
            obtain ⟨zv, hrun, hr⟩ := zero z hz
            exact ⟨.tuple #[zv, .bool false], by cases d <;> first | exact absurd rfl (hno _) | simp [Instr.typeAssert, run_underlying hu, hta, hok, hrun], .tuple (.cons hr (.cons (.bool _) .nil))⟩
        · cases h
    case nilIface =>
      simp only at h
      split at h
      · rename_i hok
        cases hz : zeroVal P asserted with
        | none => rw [hz] at h; cases h
        | some z =>
          rw [hz] at h; cases h
          obtain ⟨zv, hrun, hr⟩ := zero z hz
          exact ⟨.tuple #[zv, .bool false], by cases d <;> first | exact absurd rfl (hno _) | simp [Instr.typeAssert, run_underlying hu, hok, hrun], .tuple (.cons hr (.cons (.bool _) .nil))⟩
      · cases h
  · cases h

theorem nilCheck_spec {x : AV} {v : AV} (h : nilCheckA x = some v) {u : Value} (hx : Vr σ w x u) : v = x ∧ ∃ a, u = .pointer (some a) := by
  unfold nilCheckA at h
  split at h
  · cases h; cases hx; exact ⟨rfl, _, rfl⟩
  · cases h; cases hx; exact ⟨rfl, _, rfl⟩
  · cases h

theorem toVs_eq : ∀ {xs : List AV} {us vs : List Value}, VrL σ w xs us → toVs xs = some vs → us = vs
  | [], _, _, .nil, h => by simp only [toVs, Option.some.injEq] at h; exact h
  | x :: xs, _, _, .cons h hs, ht => by
    simp only [toVs] at ht
    split at ht
    · rename_i v vs h1 h2
      cases ht
      rw [toV_eq h h1, toVs_eq hs h2]
    · cases ht
end
end Go.AM
