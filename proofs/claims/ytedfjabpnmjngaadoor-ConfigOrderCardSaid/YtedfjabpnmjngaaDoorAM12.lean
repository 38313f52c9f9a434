/- Each operation of the abstract machine, held against the kit's: all together. -/
import Derived.Test.YtedfjabpnmjngaaDoorAM11
set_option linter.unusedSimpArgs false
set_option linter.unusedVariables false
namespace Go.AM
open Go Go.RowKit

section
variable {P : Program} {E : World → Prop} {base : Nat} {σ : Sim} {w : World} {H : Heap}

theorem convert_good (hE : ∀ w w', E w → Below base w w' → E w') (hR : Rep E base σ w H) {src dst : TypeId} {x : AV} {u : Value} (hx : Vr σ w x u) {v : AV} (h : convertA P src dst x H = some v) :
    ∃ r w' σ', (Go.convert src dst u).run P w = .ok r w' ∧ Vr σ' w' v r ∧ Rep E base σ' w' H ∧ Goes base σ w σ' w' := by
  unfold convertA at h
  split at h
  · rename_i hk
    cases hx <;> try (cases h; done)
    rename_i s
    cases h
    unfold convKind at hk
    split at hk
    · rename_i e hs hd
      split at hk
      · rename_i he h1
        have hg : w.grownBy (Lib.bytesWorld w e s) none := ⟨rfl, rfl, rfl, by rw [Lib.bytesWorld_size]; omega, fun k hk _ => Lib.bytesWorld_at_old w e s k hk⟩
        have hnew := Lib.bytesWorld_at_new w e s
        have hb := bytesCells_vr (σ := σ) (w := w) s
        obtain ⟨σ', h2, h3, h4⟩ := newFull hE hR hg (Nat.le_refl _) (e := e) (k := 1) (n := s.size) (cap := grownCap w s.size 0 e) hnew (grownCap_ge w s.size 0 e) (by simp [bytesCells]) (vs := s.data.toList.map fun b => Value.int .u8 b.toNat) (by
          apply List.ext_getElem?
          intro j
          by_cases hj : j < s.size
          · have hc := Lib.bytesWorld_cell w e s j hj
            rw [cell_of_row _ _ j _ _ _ hnew] at hc
            rw [List.getElem?_take, if_pos (by omega), Array.getElem?_toList, hc]
            have hj' : j < s.data.toList.length := by simpa using hj
            simp [List.getD, hj]
          · rw [List.getElem?_take, if_neg (by omega), List.getElem?_eq_none (by simp; omega)]) hb.1 hb.2 .ro (fun _ => trivial)
        exact ⟨_, _, σ', Lib.run_convert_string_bytes w src dst e s hs hd he, h4, h2, h3⟩
      · cases hk
    · split at hk <;> cases hk
    · cases hk
    · cases hk
  · rename_i hk
    unfold convKind at hk
    have main : ∀ e, P.underlying src = some (.slice e) → P.underlying dst = some .string → P.underlying e = some (.int .u8) → ∃ r w' σ', (Go.convert src dst u).run P w = .ok r w' ∧ Vr σ' w' v r ∧ Rep E base σ' w' H ∧ Goes base σ w σ' w' := by
      intro e hs hd he
      have hns : ∀ s, u ≠ .string s := by
        intro s hu; subst hu; cases hx; cases h
      have h' : ∃ cs m, sliceCells 1 H x = some (cs, m) ∧ ∃ l, bytesOfA cs = some l ∧ v = .str ⟨l.toArray⟩ := by
        cases x <;> simp only at h <;> first
          | (cases h; done)
          | (split at h
             · rename_i cs m hsc
               cases hb : bytesOfA cs with
               | none => rw [hb] at h; cases h
               | some l => rw [hb] at h; cases h; exact ⟨cs, m, hsc, l, hb, rfl⟩
             · cases h)
      obtain ⟨cs, m, hsc, l, hb, rfl⟩ := h'
      obtain ⟨vs, hsrc⟩ := source_of (P := P) hR hx hsc
      have hrun := bytesToString_run hsrc hns hb
      refine ⟨_, w, σ, ?_, .str _, hR, .refl _ _ _⟩
      clear hsrc
      cases hx <;> simp [sliceCells] at hsc <;> first
        | exact absurd rfl (hns _)
        | (simp [Go.convert, run_underlying hs, run_underlying hd, run_underlying he]; exact hrun)
    split at hk
    · split at hk <;> cases hk
    · rename_i e hs hd
      split at hk
      · exact main e hs hd (by assumption)
      · cases hk
    · cases hk
    · cases hk
  · cases hv : toV x with
    | none => rw [hv] at h; cases h
    | some xv =>
      rw [hv] at h
      simp only at h
      have := toV_eq hx hv
      subst this
      cases hp : pureAt P (Go.convert src dst u) with
      | none => rw [hp] at h; cases h
      | some r => rw [hp] at h; exact ⟨r, w, σ, pureAt_run _ hp w, ofV_vr h, hR, .refl _ _ _⟩
  · cases h

theorem mapOf_spec {t kt et : TypeId} (h : mapOf? P t = some (kt, et)) : P.underlying t = some (.map kt et) := by
  unfold mapOf? at h
  split at h
  · rename_i hu; cases h; exact hu
  · cases h

theorem keyOk_spec {kt : TypeId} {k : AV} (h : keyOk P kt k = true) : ∃ d, P.underlying kt = some d ∧ (∀ w : World, ∀ b u, Vr σ w k u → ∀ n, (Instr.checkKey b (n + 1) kt u).run P w = .ok () w) := by
  unfold keyOk at h
  cases hd : P.underlying kt with
  | none => rw [hd] at h; cases h
  | some d =>
    rw [hd] at h
    refine ⟨d, rfl, fun w b u hu n => ?_⟩
    cases d <;> cases hu <;> simp at h <;> simp [Instr.checkKey, run_underlying hd]

/-- A map's own entries. -/
theorem Rep.entries (hR : Rep E base σ w H) {x : AV} {u : Value} (hx : Vr σ w x u) {es : List (AV × AV)} (h : entriesA H x = some es) :
    (∃ ents, u = .map none ∧ ents = [] ∧ MapR σ w es ents) ∨ (∃ b g cap ents clock, x = .map b ∧ u = .map (some g) ∧ H.objs b = .map es ∧ σ.φ b = some (g, cap) ∧ base ≤ g ∧ w.heap[g]? = some (.map ents clock) ∧ MapR σ w es ents.toList) := by
  unfold entriesA at h
  split at h
  · cases h; cases hx; exact .inl ⟨[], rfl, rfl, .nil⟩
  · rename_i b
    cases hb : H.objs b <;> rw [hb] at h <;> try (cases h; done)
    cases h
    cases hx
    rename_i g cap hφ
    obtain ⟨g', cap', hφ', hs⟩ := hR.obj b (by rw [hb]; simp)
    rw [hφ] at hφ'; cases hφ'
    rw [hb] at hs
    obtain ⟨h0, ents, clock, h1, h2⟩ := hs
    exact .inr ⟨b, g, cap, ents, clock, rfl, rfl, hb, hφ, h0, h1, h2⟩
  · cases h

theorem lookup_good (hR : Rep E base σ w H) {t : TypeId} {x k : AV} {u ku : Value} (hx : Vr σ w x u) (hk : Vr σ w k ku) {ok : Bool} {v : AV} (h : lookupA P t x k ok H = some v) :
    ∃ r, (Instr.lookup t u ku ok).run P w = .ok r w ∧ Vr σ w v r := by
  unfold lookupA at h
  split at h
  case h_2 => cases h
  rename_i kt et hm
  have ht := mapOf_spec hm
  split at h
  case isFalse => cases h
  rename_i hko
  obtain ⟨d, hd, hck⟩ := keyOk_spec (P := P) (σ := σ) hko
  split at h
  case h_2 => cases h
  rename_i es z hes hz
  obtain ⟨zi, zv, hzi, hzv, hzo⟩ := zeroVal_spec hz
  have hzrun := zeroValue_run (P := P) hzi hzv w
  have hzr : Vr σ w z zv := ofV_vr hzo
  have fin : ∀ (ents : List MapEntry), MapR σ w es ents → ∃ r0, (Instr.findKey kt ku ents).run P w = .ok r0 w ∧
      ((r0 = none ∧ v = if ok then .tuple [z, .bool false] else z) ∨ (∃ i uv v', r0 = some (i, uv) ∧ Vr σ w v' uv ∧ v = if ok then .tuple [v', .bool true] else v')) := by
    intro ents hmr
    cases hfa : findA k es with
    | none => rw [hfa] at h; cases h
    | some r0 =>
      rw [hfa] at h
      rcases findA_now hd hk hko hmr 0 hfa with ⟨rfl, hnow, _⟩ | ⟨v', j, uv, ek, rfl, hvr, hnow, _, _, _⟩
      · simp only [Option.some.injEq] at h
        exact ⟨none, by simp [Instr.findKey, run_underlying hd, hnow], .inl ⟨rfl, h.symm⟩⟩
      · simp only [Option.some.injEq] at h
        exact ⟨_, by simp [Instr.findKey, run_underlying hd, hnow]; rfl, .inr ⟨_, _, v', rfl, hvr, h.symm⟩⟩
  have fin2 : ∀ (mv : Value) (ents : List MapEntry) (bb : Bool), MapR σ w es ents →
      ((∀ r0, (Instr.findKey kt ku ents).run P w = .ok r0 w → (Instr.lookup t mv ku ok).run P w = (match r0 with | some (_, v) => (.ok (if ok then .tuple #[v, .bool true] else v) w : Result Value) | none => .ok (if ok then .tuple #[zv, .bool false] else zv) w))) →
      ∃ r, (Instr.lookup t mv ku ok).run P w = .ok r w ∧ Vr σ w v r := by
    intro mv ents bb hmr hrun
    obtain ⟨r0, hr0, hc⟩ := fin ents hmr
    have := hrun r0 hr0
    rcases hc with ⟨rfl, rfl⟩ | ⟨i, uv, v', rfl, hvr, rfl⟩
    · refine ⟨_, this, ?_⟩
      cases ok
      · simpa using hzr
      · simpa using Vr.tuple (vs := #[zv, .bool false]) (.cons hzr (.cons (.bool _) .nil))
    · refine ⟨_, this, ?_⟩
      cases ok
      · simpa using hvr
      · simpa using Vr.tuple (vs := #[uv, .bool true]) (.cons hvr (.cons (.bool _) .nil))
  rcases hR.entries hx hes with ⟨ents, rfl, rfl, hmr⟩ | ⟨b, g, cap, ents, clock, rfl, rfl, hb, hφ, h0, hh, hmr⟩
  · have hc := hck w true ku hk 9999
    refine fin2 _ [] true hmr fun r0 hr0 => ?_
    cases r0 with
    | none => simp [Instr.lookup, run_underlying ht, hc, hr0, hzrun]
    | some p => simp [Instr.lookup, run_underlying ht, hc, hr0]
  · have hc := hck w ents.isEmpty ku hk 9999
    have hget : (getObj g).run P w = .ok (.map ents clock) w := by simp [getObj, Sem.run, hh]
    refine fin2 _ ents.toList true hmr fun r0 hr0 => ?_
    cases r0 with
    | none => simp [Instr.lookup, run_underlying ht, hget, hc, hr0, hzrun]
    | some p => simp [Instr.lookup, run_underlying ht, hget, hc, hr0]

def World.setMap (w : World) (g : Nat) (o : Obj) : World := { w with heap := w.heap.setIfInBounds g o }
theorem grownBy_setObj (w : World) (g : Nat) (o : Obj) : w.grownBy (World.setMap w g o) (some g) :=
  ⟨rfl, rfl, rfl, by simp [World.setMap], fun k _ hk => by
    have hne : g ≠ k := fun e => hk (by rw [e])
    simp [World.setMap, Array.getElem?_setIfInBounds_ne hne]⟩
theorem setMap_at {w : World} {g : Nat} {o o' : Obj} (h : w.heap[g]? = some o') : (World.setMap w g o).heap[g]? = some o := by
  have := (Array.getElem?_eq_some_iff.1 h).1
  simp [World.setMap, this]

/-- A block that is no row of cells is written. -/
theorem Rep.writeObj (hE : ∀ w w', E w → Below base w w' → E w') (h : Rep E base σ w H) {b g cap : Nat} (hd : H.objs b ≠ .dead) (hφ : σ.φ b = some (g, cap)) (hb : base ≤ g) {o o' : Obj} (ho : w.heap[g]? = some o) (hno : ∀ c e f, o ≠ .cells c e f) (c : Cell)
    (hs : Keeps σ w (World.setMap w g o') → Stands base σ (World.setMap w g o') g cap c) : Rep E base σ (World.setMap w g o') (H.set b c) ∧ Goes base σ w σ (World.setMap w g o') := by
  have hg := grownBy_setObj w g o'
  have hbe : Below base w (World.setMap w g o') := (Below.refl base w).grown hg h.baseLe (by simp; exact hb)
  have same : ∀ x, x < w.heap.size → x ≠ g → (World.setMap w g o').heap[x]? = w.heap[x]? := fun x hl hx => hg.block x hl (by simp [hx])
  have hk : Keeps σ w (World.setMap w g o') := by
    intro x j v hj hc
    by_cases hx : x = g
    · subst hx
      have : w.cell? ⟨x, j, none⟩ = none := by
        simp only [World.cell?, ho]
        cases o <;> simp
        exact absurd rfl (hno _ _ _)
      rw [this] at hc; cases hc
    · rw [← hc]; exact World.cell?_of_block (a := ⟨x, j, none⟩) (same x (h.freshG x j hj) hx)
  refine ⟨⟨hE _ _ h.env hbe, Nat.le_trans h.baseLe hg.size, fun x hx => ?_, fun x y g' c1 c2 hx hy h1 h2 => ?_, fun t e ht => ?_, h.tipInj, fun t x g' y c1 ht hx hT hφ' => ?_, fun b g c hφ => ?_, fun t g x hT => ?_, fun g j hG => ?_, fun x hx => ?_, h.freshTip⟩, ⟨.refl σ, hk, hbe, fun x hl hL => ⟨hL, same x hl (fun e => hL.φ b cap (e ▸ hφ))⟩⟩⟩
  · by_cases hxb : x = b
    · subst hxb; exact ⟨g, cap, hφ, by simpa [Heap.set] using hs hk⟩
    · simp only [Heap.set, if_neg hxb] at hx ⊢
      obtain ⟨g', cap', hφ', hs'⟩ := h.obj x hx
      exact ⟨g', cap', hφ', hs'.mono (.refl σ) hk (same g' (h.freshφ x g' cap' hφ').2 (fun e => hxb (h.inj x b g cap' cap hx hd (e ▸ hφ') hφ))) fun _ hj => hj⟩
  · have up : ∀ z, (H.set b c).objs z ≠ .dead → H.objs z ≠ .dead := fun z hz => by
      by_cases hzb : z = b
      · subst hzb; exact hd
      · simpa only [Heap.set, if_neg hzb] using hz
    exact h.inj x y g' c1 c2 (up x hx) (up y hy) h1 h2
  · obtain ⟨g', c1, k, n, hT, hs'⟩ := h.tip t e ht
    exact ⟨g', c1, k, n, hT, hs'.mono (same g' (h.freshT t g' _ hT).2 (fun e' => h.tipObj t b g _ cap (by rw [show H.tips t = some e from ht]; rfl) hd (e' ▸ hT) hφ)) fun _ hj => hj⟩
  · by_cases hxb : x = b
    · subst hxb; exact h.tipObj t x g' y c1 ht hd hT hφ'
    · simp only [Heap.set, if_neg hxb] at hx; exact h.tipObj t x g' y c1 ht hx hT hφ'
  · exact ⟨(h.freshφ b g c hφ).1, Nat.lt_of_lt_of_le (h.freshφ b g c hφ).2 hg.size⟩
  · exact ⟨(h.freshT t g x hT).1, Nat.lt_of_lt_of_le (h.freshT t g x hT).2 hg.size⟩
  · exact Nat.lt_of_lt_of_le (h.freshG g j hG) hg.size
  · by_cases hxb : x = b
    · subst hxb; exact (hd (h.freshO x hx)).elim
    · simp only [Heap.set, if_neg hxb]; exact h.freshO x hx

theorem mapUpdate_good (hE : ∀ w w', E w → Below base w w' → E w') (hR : Rep E base σ w H) {t : TypeId} {m k v : AV} {mu ku vu : Value} (hm : Vr σ w m mu) (hk : Vr σ w k ku) (hv : Vr σ w v vu) {H' : Heap} (h : mapUpdateA P t m k v H = some H') :
    ∃ w' σ', (Instr.mapUpdate t mu ku vu).run P w = .ok () w' ∧ Rep E base σ' w' H' ∧ Goes base σ w σ' w' := by
  unfold mapUpdateA at h
  split at h
  case h_2 => cases h
  rename_i kt et b hmo
  have ht := mapOf_spec hmo
  split at h
  case isFalse => cases h
  rename_i hko
  obtain ⟨d, hd, hck⟩ := keyOk_spec (P := P) (σ := σ) hko
  cases hb : H.objs b <;> rw [hb] at h <;> try (cases h; done)
  rename_i es
  simp only at h
  cases hfa : findA k es with
  | none => rw [hfa] at h; cases h
  | some r0 =>
    rw [hfa] at h
    cases h
    rcases hR.entries hm (es := es) (by simp [entriesA, hb]) with ⟨_, rfl, _, _⟩ | ⟨b', g, cap, ents, clock, hbb, rfl, hb', hφ, h0, hh, hmr⟩
    · cases hm
    · cases hbb
      have hget : (getObj g).run P w = .ok (.map ents clock) w := by simp [getObj, Sem.run, hh]
      have hset : ∀ o, (setObj g o).run P w = .ok () (World.setMap w g o) := fun o => by simp [setObj, Sem.run, hh, World.setMap]
      have hc := hck w false ku hk 9999
      have hdd : H.objs b ≠ .dead := by rw [hb]; simp
      rcases findA_now hd hk hko hmr 0 hfa with ⟨rfl, hnow, hput⟩ | ⟨v', j, uv, ek, rfl, hvr, hnow, hkey, hek, hput⟩
      · have hrun : (Instr.mapUpdate t (.map (some g)) ku vu).run P w = .ok () (World.setMap w g (.map (ents.push { key := ku, val := vu, born := clock }) (clock + 1))) := by
          simp [Instr.mapUpdate, run_underlying ht, hget, hc, Instr.findKey, run_underlying hd, hnow, hset]
        have := hR.writeObj hE hdd hφ h0 (o := .map ents clock) (o' := .map (ents.push { key := ku, val := vu, born := clock }) (clock + 1)) hh (by simp) (.map (putA k v es)) (fun hke => ⟨h0, _, _, setMap_at hh, by
          have := (hput v vu { key := ku, val := vu, born := clock } hv rfl rfl).mono (.refl σ) hke
          simpa using this⟩)
        exact ⟨_, σ, hrun, this.1, this.2⟩
      · subst hek
        have hkj : ((ents[j]?).map (·.key)).getD ek = ek := by
          have : (ents[j]?).map (·.key) = some ek := by simpa using hkey
          simp [this]
        have hbits : ∀ n, Instr.sameBits n ek ek = true := by
          intro n
          have hko' := hko
          unfold keyOk at hko'
          rw [hd] at hko'
          cases d <;> cases hk <;> simp at hko' <;> simp [Instr.sameBits]
          exact (MapKept.bytes_beq _ _).2 rfl
        have hrun : (Instr.mapUpdate t (.map (some g)) ek vu).run P w = .ok () (World.setMap w g (.map (ents.modify j fun e => { e with key := ek, val := vu }) clock)) := by
          simp only [Nat.zero_add] at hnow
          simp [Instr.mapUpdate, run_underlying ht, hget, hc, Instr.findKey, run_underlying hd, hnow, hset, hkj, Instr.keyThatStays, hbits]
        have := hR.writeObj hE hdd hφ h0 (o := .map ents clock) (o' := .map (ents.modify j fun e => { e with key := ek, val := vu }) clock) hh (by simp) (.map (putA k v es)) (fun hke => ⟨h0, _, _, setMap_at hh, by
          have := (hput v vu hv).mono (.refl σ) hke
          simpa using this⟩)
        exact ⟨_, σ, hrun, this.1, this.2⟩

theorem MapR.length {es : List (AV × AV)} {ents : List MapEntry} (h : MapR σ w es ents) : es.length = ents.length := by
  induction h with
  | nil => rfl
  | cons _ _ _ ih => simp [ih]

theorem len_good (hR : Rep E base σ w H) {t ty : TypeId} {x : AV} {u : Value} (hx : Vr σ w x u) {v : AV} (h : lenA P t x H = some v) : ∃ r, (Builtin.len_ #[t] ty #[u]).run P w = .ok r w ∧ Vr σ w v r := by
  unfold lenA at h
  split at h <;> try (cases h; done)
  · rename_i ht; cases h; cases hx; exact ⟨_, by simp [Builtin.len_, run_underlying ht, goInt], .int _ _⟩
  · rename_i ht; cases h; cases hx; exact ⟨_, by simp [Builtin.len_, run_underlying ht, goInt], .int _ _⟩
  · rename_i ht; cases h; cases hx; exact ⟨_, by simp [Builtin.len_, run_underlying ht, goInt], .int _ _⟩
  · rename_i ht; cases h; cases hx; exact ⟨_, by simp [Builtin.len_, run_underlying ht, goInt], .int _ _⟩
  · rename_i ht; cases h; exact ⟨_, by simp [Builtin.len_, run_underlying ht, goInt], .int _ _⟩
  · rename_i ht; cases h; cases hx; exact ⟨_, by simp [Builtin.len_, run_underlying ht, goInt], .int _ _⟩
  · rename_i b ht
    cases hb : H.objs b <;> rw [hb] at h <;> try (cases h; done)
    rename_i es
    cases h
    rcases hR.entries hx (es := es) (by simp [entriesA, hb]) with ⟨_, rfl, _, _⟩ | ⟨b', g, cap, ents, clock, hbb, rfl, hb', hφ, h0, hh, hmr⟩
    · cases hx
    · have hget : (getObj g).run P w = .ok (.map ents clock) w := by simp [getObj, Sem.run, hh]
      have hl := hmr.length
      simp only [Array.length_toList] at hl
      exact ⟨.int .i64 es.length, by simp [Builtin.len_, run_underlying ht, hget, goInt, hl], .int _ _⟩

theorem copy_good (hE : ∀ w w', E w → Below base w w' → E w') (hR : Rep E base σ w H) {t t' ty : TypeId} {d x : AV} {du xu : Value} (hd : Vr σ w d du) (hx : Vr σ w x xu) {v : AV} {H' : Heap} (h : copyA P t d x H = some (v, H')) :
    ∃ r w' σ', (Builtin.copy_ #[t, t'] ty #[du, xu]).run P w = .ok r w' ∧ Vr σ' w' v r ∧ Rep E base σ' w' H' ∧ Goes base σ w σ' w' := by
  unfold copyA at h
  split at h
  case h_2 => cases h
  rename_i b k off n e he
  have ht := elemOf_spec he
  split at h
  case isFalse => cases h
  rename_i hk
  split at h
  case h_2 => cases h
  rename_i xs m e' k' cs hsc hb
  split at h
  case isFalse => cases h
  rename_i hcond
  obtain ⟨rfl, hfit⟩ := hcond
  simp only [Option.some.injEq, Prod.mk.injEq] at h
  obtain ⟨rfl, rfl⟩ := h
  cases hd
  rename_i g cap c hφ hc h0
  obtain ⟨news, hsrc⟩ := source_of (P := P) hR hx hsc
  have hdd : H.objs b ≠ .dead := by rw [hb]; simp
  obtain ⟨g', cap', hφ', hst⟩ := hR.obj b hdd
  rw [hφ] at hφ'; cases hφ'
  rw [hb] at hst
  obtain ⟨hbg, hm, cur, n', hg, hsz, hcn, hnc, hv, h1, hG⟩ := hst
  have hq : min m n * k' ≤ n * k' := Nat.mul_le_mul_right _ (Nat.min_le_right _ _)
  have hqm : min m n * k' ≤ m * k' := Nat.mul_le_mul_right _ (Nat.min_le_left _ _)
  have hxl : xs.length = m * k' := by rw [hsrc.vr.length, hsrc.len]
  have hnl := hsrc.len
  have hle : cs.length ≤ cur.size := by rw [hcn, hsz]; exact Nat.mul_le_mul_right _ hnc
  have hf := hsrc.first w rfl (min m n) (Nat.min_le_left _ _)
  have hx' := hsrc.vr.take (min m n * k')
  have h1x := oneL_take hsrc.one (min m n * k')
  have htl : (news.take (min m n * k')).length = min m n * k' := by rw [List.length_take]; omega
  have hst := run_storeCells_at P g off e' (news.take (min m n * k')) 0 cur w hg (by rw [htl]; omega) (hx'.one h1x)
  simp only [Nat.add_zero] at hst
  have hrun : (Builtin.copy_ #[t, t'] ty #[.slice (some ⟨g, off, none⟩) n c, xu]).run P w = .ok (.int .i64 (min m n : Nat)) (w.setRow g (cur.toList.take off ++ news.take (min m n * k') ++ cur.toList.drop (off + (news.take (min m n * k')).length)).toArray) := by
    have hmin : Nat.min m n = min m n := rfl
    simp [Builtin.copy_, run_underlying ht, hsrc.lenOf, sizeOf_run hk, hmin, hf, hst, goInt]
  have hxt : (xs.take (min m n * k')).length = min m n * k' := by rw [List.length_take]; omega
  have hw := hR.write hE hdd hφ hbg (grownBy_setRow w g (cur.toList.take off ++ news.take (min m n * k') ++ cur.toList.drop (off + (news.take (min m n * k')).length)).toArray) hG (.row e' k' (setAt cs off (xs.take (min m n * k'))))
    (fun hke => by
      refine ⟨hbg, hm, _, n', setRow_heap w g cur _ e' _ hg, ?_, ?_, hnc, ?_, oneL_splice h1 h1x off, hG⟩
      · simp [htl]; omega
      · rw [setAt_length (by rw [hxt]; omega)]; exact hcn
      · rw [setAt_length (by rw [hxt]; omega)]
        have hsp := (hv.mono (.refl σ) hke).splice (hx'.mono (.refl σ) hke) off
        have : (cur.toList.take off ++ news.take (min m n * k') ++ cur.toList.drop (off + (news.take (min m n * k')).length)).take cs.length = (cur.toList.take cs.length).take off ++ news.take (min m n * k') ++ (cur.toList.take cs.length).drop (off + (news.take (min m n * k')).length) := by
          rw [htl, List.take_append, List.take_append, List.take_take, List.take_of_length_le (l := news.take (min m n * k')) (by simp; omega)]
          congr 1
          · congr 1
            rw [Nat.min_comm]
            rw [List.take_take]
          · rw [List.drop_take]
            congr 1
            simp
            omega
        rw [this]; exact hsp)
  exact ⟨_, _, σ, hrun, .int _ _, hw.1, hw.2⟩
end
end Go.AM
