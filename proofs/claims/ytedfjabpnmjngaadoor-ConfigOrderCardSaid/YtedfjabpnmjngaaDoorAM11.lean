/- Each operation of the abstract machine, held against the kit's: maps, bytes, and all together. -/
import Derived.Test.YtedfjabpnmjngaaDoorAM10
import Derived.Laws.BytesString
import Derived.Lib.ConvBytes
import Derived.MapKept
set_option linter.unusedSimpArgs false
set_option linter.unusedVariables false
namespace Go.AM
open Go Go.RowKit

section
variable {P : Program} {E : World → Prop} {base : Nat} {σ : Sim} {w : World} {H : Heap}

theorem bytesOfA_spec : ∀ {cs : List AV} {l : List UInt8} {vs : List Value}, bytesOfA cs = some l → VrL σ w cs vs → ∃ ns : List Int, vs = ns.map (fun n => Value.int .u8 n) ∧ l = ns.map fun n => UInt8.ofNat n.toNat
  | [], l, _, h, .nil => by simp only [bytesOfA, Option.some.injEq] at h; subst h; exact ⟨[], rfl, rfl⟩
  | x :: xs, l, _, h, .cons hx hs => by
    simp only [bytesOfA] at h
    split at h
    case h_2 => cases h
    rename_i b bs h1 h2
    cases h
    obtain ⟨ns, rfl, rfl⟩ := bytesOfA_spec h2 hs
    unfold byteOfA at h1
    split at h1
    · cases h1; cases hx; exact ⟨_ :: ns, rfl, rfl⟩
    · cases h1

theorem foldl_bytes : ∀ (ns : List Int) (s : ByteArray), ns.foldl (fun r n => r.push (UInt8.ofNat n.toNat)) s = ⟨(s.data.toList ++ ns.map fun n => UInt8.ofNat n.toNat).toArray⟩
  | [], s => by simp
  | n :: ns, s => by simp only [List.foldl_cons]; rw [foldl_bytes ns]; simp [ByteArray.push]

theorem bytesToString_run {u : Value} {m : Nat} {xs : List AV} {vs : List Value} {l : List UInt8} (hs : Source P σ w 1 xs m u vs) (hns : ∀ s, u ≠ .string s) (hb : bytesOfA xs = some l) : (Conv.bytesToString u).run P w = .ok (.string ⟨l.toArray⟩) w := by
  obtain ⟨ns, rfl, rfl⟩ := bytesOfA_spec hb hs.vr
  have hf := hs.first w rfl m (Nat.le_refl _)
  have hl := hs.lenOf w
  have hlen := hs.len
  rw [Nat.mul_one] at hf hlen
  rw [List.take_of_length_le (by omega)] at hf
  cases u <;> simp [Builtin.lenOf, stuck] at hl
  case string s => exact absurd rfl (hns s)
  case slice a len cap =>
    subst hl
    cases a with
    | none =>
      simp only [Builtin.firstCells] at hf
      have : ns = [] := by
        have : (ns.map fun n => Value.int .u8 n).toArray = #[] := by simpa using hf.symm
        simpa using this
      subst this
      simp [Conv.bytesToString]
      rfl
    | some a =>
      simp only [Builtin.firstCells, Nat.mul_one] at hf
      rw [run_bytesToString w a len cap ns hf, foldl_bytes]
      simp

theorem sameKey_now {kt : TypeId} {d : TypeDesc} (hd : P.underlying kt = some d) {k k' : AV} {u u' : Value} (hk : Vr σ w k u) (hk' : Vr σ w k' u') (hok : keyOk P kt k = true) {b : Bool} (h : sameKey k k' = some b) : Instr.sameNow d u u' = some b := by
  unfold keyOk at hok
  rw [hd] at hok
  unfold sameKey at h
  split at h
  · cases hk; cases hk'
    split at h
    · rename_i hkk; subst hkk
      cases h
      cases d <;> simp at hok
      simp [Instr.sameNow]
    · cases h
  · cases hk; cases hk'; cases h
    cases d <;> simp at hok
    simp [Instr.sameNow]
  · cases hk; cases hk'; cases h
    cases d <;> simp at hok
    simp [Instr.sameNow]
  · cases h

/-- The key's place among a map's entries. -/
theorem findA_now {kt : TypeId} {d : TypeDesc} (hd : P.underlying kt = some d) {k : AV} {u : Value} (hk : Vr σ w k u) (hok : keyOk P kt k = true) :
    ∀ {es : List (AV × AV)} {ents : List MapEntry}, MapR σ w es ents → ∀ {r : Option AV} (i : Nat), findA k es = some r →
      (r = none ∧ Instr.findNow d u ents i = some none ∧ (∀ v uv e, Vr σ w v uv → e.key = u → e.val = uv → MapR σ w (putA k v es) (ents ++ [e]))) ∨
      (∃ v j uv ek, r = some v ∧ Vr σ w v uv ∧ Instr.findNow d u ents i = some (some (i + j, uv)) ∧ (ents[j]?).map (·.key) = some ek ∧ ek = u ∧
        (∀ v' uv', Vr σ w v' uv' → MapR σ w (putA k v' es) (ents.modify j fun e => { e with key := u, val := uv' })))
  | [], [], .nil, r, i, h => by
    simp only [findA, Option.some.injEq] at h
    subst h
    refine .inl ⟨rfl, rfl, fun v uv e hv he1 he2 => ?_⟩
    subst he1; subst he2
    exact .cons hk hv .nil
  | (k', v') :: es, e :: ents, .cons hk' hv' hs, r, i, h => by
    simp only [findA] at h
    cases hsk : sameKey k k' with
    | none => rw [hsk] at h; cases h
    | some b =>
      rw [hsk] at h
      have hnow := sameKey_now hd hk hk' hok hsk
      cases b with
      | true =>
        cases h
        have heq : e.key = u := by
          unfold sameKey at hsk
          split at hsk
          · cases hk; generalize hek : e.key = ek at hk' ⊢; cases hk'
            split at hsk
            · rename_i hkk; subst hkk
              simp at hsk; subst hsk; rfl
            · cases hsk
          · cases hk; generalize hek : e.key = ek at hk' ⊢; cases hk'; simp only [Option.some.injEq] at hsk; rw [(MapKept.bytes_beq _ _).1 hsk]
          · cases hk; generalize hek : e.key = ek at hk' ⊢; cases hk'; simp at hsk; subst hsk; rfl
          · cases hsk
        refine .inr ⟨v', 0, e.val, e.key, rfl, hv', by simp [Instr.findNow, hnow], by simp, heq, fun v2 uv2 h2 => ?_⟩
        simp only [putA, hsk]
        have : (e :: ents).modify 0 (fun e => { e with key := u, val := uv2 }) = { e with key := u, val := uv2 } :: ents := by simp
        rw [this]
        exact .cons hk h2 hs
      | false =>
        simp only at h
        rcases findA_now hd hk hok hs (i + 1) h with ⟨h1, h2, h3⟩ | ⟨v, j, uv, ek, h1, h2, h3, h4, h5, h6⟩
        · refine .inl ⟨h1, by simp [Instr.findNow, hnow, h2], fun v uv e' hv he1 he2 => ?_⟩
          simp only [putA, hsk]
          exact .cons hk' hv' (h3 v uv e' hv he1 he2)
        · refine .inr ⟨v, j + 1, uv, ek, h1, h2, by simp [Instr.findNow, hnow, h3]; omega, by simpa using h4, h5, fun v2 uv2 hh => ?_⟩
          simp only [putA, hsk]
          have : (e :: ents).modify (j + 1) (fun e => { e with key := u, val := uv2 }) = e :: ents.modify j (fun e => { e with key := u, val := uv2 }) := by simp
          rw [this]
          exact .cons hk' hv' (h6 v2 uv2 hh)
end
end Go.AM
