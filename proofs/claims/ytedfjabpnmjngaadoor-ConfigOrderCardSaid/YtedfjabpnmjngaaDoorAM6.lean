/- Each operation of the abstract machine, held against the kit's: third part. -/
import Derived.Test.YtedfjabpnmjngaaDoorAM5
set_option linter.unusedSimpArgs false
set_option linter.unusedVariables false
namespace Go.AM
open Go Go.RowKit

section
variable {P : Program} {E : World → Prop} {base : Nat} {σ : Sim} {w : World} {H : Heap}

theorem zeroCellsL_length (z : List AV) : ∀ n, (zeroCellsL z n).length = n * z.length
  | 0 => by simp [zeroCellsL]
  | n + 1 => by simp [zeroCellsL, zeroCellsL_length z n, Nat.add_mul]; omega
theorem oneL_zeroCells {z : List AV} (h : oneL z = true) : ∀ n, oneL (zeroCellsL z n) = true
  | 0 => rfl
  | n + 1 => oneL_append h (oneL_zeroCells h n)
def zeroVals (z : List Value) : Nat → List Value
  | 0 => []
  | n + 1 => z ++ zeroVals z n
theorem zeroVals_length (z : List Value) : ∀ n, (zeroVals z n).length = n * z.length
  | 0 => by simp [zeroVals]
  | n + 1 => by simp [zeroVals, zeroVals_length z n, Nat.add_mul]; omega
theorem VrL.zeros {z : List AV} {zv : List Value} (h : VrL σ w z zv) : ∀ n, VrL σ w (zeroCellsL z n) (zeroVals zv n)
  | 0 => .nil
  | n + 1 => h.append (h.zeros n)
theorem zeroVals_get (z : List Value) : ∀ n i, i < n * z.length → (zeroVals z n)[i]? = z[i % z.length]?
  | 0, i, h => by simp at h
  | n + 1, i, h => by
    simp only [zeroVals]
    by_cases hi : i < z.length
    · rw [List.getElem?_append_left hi, Nat.mod_eq_of_lt hi]
    · have h2 : (n + 1) * z.length = n * z.length + z.length := by rw [Nat.add_mul, Nat.one_mul]
      rw [List.getElem?_append_right (by omega), zeroVals_get z n (i - z.length) (by omega), ← Nat.mod_eq_sub_mod (by omega)]
theorem range_zero (z : Array Value) (n : Nat) : ((Array.range (n * z.size)).map (z[· % z.size]!)).toList = zeroVals z.toList n := by
  apply List.ext_getElem?
  intro i
  by_cases hi : i < n * z.size
  · rw [zeroVals_get _ _ _ (by simpa using hi)]
    have hz : 0 < z.size := by rcases Nat.eq_zero_or_pos z.size with h | h
                               · rw [h] at hi; simp at hi
                               · exact h
    have hm : i % z.size < z.size := Nat.mod_lt _ hz
    simp [hi, hm]
  · rw [List.getElem?_eq_none (by simpa using hi), List.getElem?_eq_none (by rw [zeroVals_length]; simpa using hi)]

theorem buildSlice_run {t e : TypeId} (ht : P.underlying t = some (.slice e)) {k len : Nat} (hk : sizeOf? P e = some k) (_hk0 : 0 < k) {zv : Value} {ie : TypeInfo} (hie : P.info? e = some ie) (hzv : ie.zero = some zv)
    (_hzk : zv.cells.size = k) (hsz : len * k ≤ 16777216) {parts : Array (Nat × Value)} {rc : Array Value}
    (hf : Instr.fill (fun i => some (i * k, k)) ((Array.range (len * k)).map (zv.cells[· % zv.cells.size]!)) parts.toList = some rc) :
    (Instr.buildSlice t len parts).run P w = .ok (.slice (some ⟨w.heap.size, 0, none⟩) len len) (w.alloc (.cells rc e)) := by
  have hsz' : ¬ (len * k > 2 ^ 24) := by omega
  by_cases h0 : len * k = 0
  · have hf' : Instr.fill (fun i => some (i * k, k)) ((Array.range (len * k)).map ((#[] : Array Value)[· % (#[] : Array Value).size]!)) parts.toList = some rc := by
      rw [← hf]; congr 1; rw [h0]; simp
    simp only [Instr.buildSlice, Sem.run_bind, run_underlying ht, Result.andThen_ok, sizeOf_run hk, if_neg hsz', if_pos h0, Sem.run_pure, hf']
    rfl
  · simp only [Instr.buildSlice, Sem.run_bind, run_underlying ht, Result.andThen_ok, sizeOf_run hk, if_neg hsz', if_neg h0, zeroValue_run hie hzv, Sem.run_pure, hf]
    rfl

theorem foldl_size (off : Nat) : ∀ (l : List (Value × Nat)) (cc : Array Value), (l.foldl (fun cs x => cs.setIfInBounds (off + x.2) x.1) cc).size = cc.size
  | [], _ => rfl
  | x :: l, cc => by simp only [List.foldl_cons]; rw [foldl_size off l]; simp
theorem fill_size {place : Nat → Option (Nat × Nat)} : ∀ (pc : List (Nat × Value)) (cc rc : Array Value), Instr.fill place cc pc = some rc → rc.size = cc.size
  | [], cc, rc, h => by simp [Instr.fill] at h; rw [h]
  | (i, v) :: pc, cc, rc, h => by
    simp only [Instr.fill] at h
    split at h
    · cases h
    · split at h
      · cases h
      · rw [fill_size pc _ rc h]
        rw [← Array.foldl_toList]
        exact foldl_size _ _ _

theorem alloc_good (hE : ∀ w w', E w → Below base w w' → E w') (hR : Rep E base σ w H) {t : TypeId} {z : List AV} (hz : zeroOf P t = some z) :
    ∃ w' σ', (Instr.alloc t true (.tuple #[])).run P w = .ok (.pointer (some ⟨w.heap.size, 0, none⟩)) w' ∧ Rep E base σ' w' (H.new (.cells z)) ∧ Goes base σ w σ' w' ∧ Vr σ' w' (.ptr H.next 0) (.pointer (some ⟨w.heap.size, 0, none⟩)) := by
  obtain ⟨it, zv, za, hi, hzv, hza, hzf, _⟩ := zeroOf_spec hz
  obtain ⟨hv0, h10⟩ := (ofV_vr (σ := σ) (w := w) hza).flat hzf
  obtain ⟨σ', hr, hg, hφ⟩ := newCells hE hR hv0 h10 t
  refine ⟨w.alloc (.cells zv.cells t), σ', ?_, hr, hg, .ptr hφ⟩
  simp only [Instr.alloc, Sem.run_bind, zeroValue_run hi hzv, Result.andThen_ok]
  rfl

theorem box_good (hE : ∀ w w', E w → Below base w w' → E w') (hR : Rep E base σ w H) {t : TypeId} {v : AV} {u : Value} (hv : Vr σ w v u) {cs : List AV} (hf : v.flat = some cs) :
    ∃ w' σ', (Instr.box t u).run P w = .ok (.pointer (some ⟨w.heap.size, 0, none⟩)) w' ∧ Rep E base σ' w' (H.new (.cells cs)) ∧ Goes base σ w σ' w' ∧ Vr σ' w' (.ptr H.next 0) (.pointer (some ⟨w.heap.size, 0, none⟩)) := by
  obtain ⟨hv0, h10⟩ := hv.flat hf
  obtain ⟨σ', hr, hg, hφ⟩ := newCells hE hR hv0 h10 t
  exact ⟨w.alloc (.cells u.cells t), σ', rfl, hr, hg, .ptr hφ⟩

theorem elemOf_spec {t e : TypeId} (h : elemOf? P t = some e) : P.underlying t = some (.slice e) := by
  unfold elemOf? at h
  split at h
  · rename_i e' hu; cases h; exact hu
  · cases h

/-- A slice literal. -/
theorem buildSlice_good (hE : ∀ w w', E w → Below base w w' → E w') (hR : Rep E base σ w H) {t : TypeId} {len : Nat} {parts : Array (Nat × Operand)} {a : AAct} {ac : Act} (ha : ActR σ w a ac) {vs : List (Nat × AV)} {heapKind : Bool} {v : AV} {H' : Heap}
    (hvs : partsA a parts = some vs) (h : buildSliceA P heapKind t len vs H = some (v, H')) :
    ∃ u w' σ', (Instr.buildSlice t len (parts.map fun (i, x) => (i, ac.eval x))).run P w = .ok u w' ∧ Vr σ' w' v u ∧ Rep E base σ' w' H' ∧ Goes base σ w σ' w' := by
  unfold buildSliceA at h
  split at h
  case h_2 => cases h
  rename_i e hte
  have ht := elemOf_spec hte
  split at h
  case h_2 => cases h
  rename_i k z hk hz
  split at h
  case isFalse => cases h
  rename_i hcond
  obtain ⟨hk0, hzk, hsz⟩ := hcond
  split at h
  case h_2 => cases h
  rename_i cs hf
  simp only [Option.some.injEq, Prod.mk.injEq] at h
  obtain ⟨rfl, rfl⟩ := h
  obtain ⟨ie, zv, za, hie, hzv, hza, hzf, _⟩ := zeroOf_spec hz
  obtain ⟨hv0, h10⟩ := (ofV_vr (σ := σ) (w := w) hza).flat hzf
  have hzl : zv.cells.size = k := by have := hv0.length; simp only [Array.length_toList] at this; omega
  obtain ⟨hl, hr⟩ := parts_good ha parts.toList vs hvs
  have hmap : (parts.map fun (i, x) => (i, ac.eval x)).toList = parts.toList.map fun (i, x) => (i, ac.eval x) := by simp
  have hzz : VrL σ w (zeroCellsL z len) ((Array.range (len * k)).map (zv.cells[· % zv.cells.size]!)).toList := by
    rw [← hzl, range_zero]; exact hv0.zeros len
  obtain ⟨rc, hrc, hv, h1⟩ := fill_good (σ := σ) (w := w) (fun i => some (i * k, k)) (fun i => some (i * k, k)) (fun i p hp => hp) vs _ _ _ cs hl hr hzz (oneL_zeroCells h10 len) hf
  have hrun := buildSlice_run (w := w) ht hk hk0 hie hzv hzl hsz (parts := parts.map fun (i, x) => (i, ac.eval x)) (rc := rc) (by rw [hmap]; exact hrc)
  have hrs : rc.size = len * k := by rw [fill_size _ _ _ hrc]; simp
  have hcl : cs.length = len * k := by rw [hv.length]; simpa using hrs
  have htake : rc.toList.take (len * k) = rc.toList := List.take_of_length_le (by simp; omega)
  cases heapKind with
  | true =>
    obtain ⟨σ', h2, h3, h4⟩ := newRowCells hE hR (grownBy_alloc w (.cells rc e)) (Nat.le_refl _) (e := e) (k := k) (n := len) (cap := len) (cur := rc) (heap_alloc_new w _) hrs (by simp only [maxLen]; have : len ≤ len * k := Nat.le_mul_of_pos_right _ hk0; omega) (Nat.le_refl _) hcl htake hv h1
    exact ⟨_, _, σ', hrun, .hsl h4 (Nat.le_refl _) (fun _ => rfl), h2, h3⟩
  | false =>
    obtain ⟨σ', h2, h3, h4⟩ := newFull hE hR (grownBy_alloc w (.cells rc e)) (Nat.le_refl _) (e := e) (k := k) (n := len) (cap := len) (cur := rc) (heap_alloc_new w _) (Nat.le_refl _) hcl htake hv h1 .full (fun _ => rfl)
    exact ⟨_, _, σ', hrun, h4, h2, h3⟩

theorem natOf_spec {x : AV} {n : Nat} (h : natOf x = some n) : ∃ k, x = .int k n := by
  unfold natOf at h
  split at h
  · rename_i k m
    split at h
    · rename_i h0; cases h; exact ⟨k, by rw [Int.toNat_of_nonneg h0]⟩
    · cases h
  · cases h
theorem natOf_vr {x : AV} {n : Nat} (h : natOf x = some n) {u : Value} (hu : Vr σ w x u) : ∃ k, u = .int k n := by
  obtain ⟨k, rfl⟩ := natOf_spec h
  cases hu
  exact ⟨k, rfl⟩

theorem roomy_le {n bytes : Nat} (h : roomy n bytes = true) : n * bytes ≤ 70368744177664 := by
  simp only [roomy, decide_eq_true_eq, Nat.mul_add, Nat.mul_one] at h; omega
theorem roomy_n {n bytes : Nat} (h : roomy n bytes = true) : n ≤ 70368744177664 := by
  simp only [roomy, decide_eq_true_eq, Nat.mul_add, Nat.mul_one] at h; omega

theorem wrap_small {n : Nat} (h : n ≤ 9223372036854775807) : IntKind.i64.wrap (n : Int) = n := by
  have := IntKind.wrap
  simp [IntKind.wrap, IntKind.bits, IntKind.signed]
  omega

theorem makeSlice_good' (hE : ∀ w w', E w → Below base w w' → E w') (hR : Rep E base σ w H) {t e : TypeId} {n : Nat} {i : TypeInfo} {z : List AV} {l c : AV} {lu cu : Value} (hlu : Vr σ w l lu) (hcu : Vr σ w c cu)
    (hl : natOf l = some n) (hc : natOf c = some n) (ht : P.underlying t = some (.slice e)) (hi : P.info? e = some i) (hz : zeroOf P e = some z) (_hi0 : 0 < i.size) (hzk : z.length = i.size) (hro : roomy n i.bytes = true) (hn : n ≤ 9223372036854775807) (heapKind : Bool) :
    ∃ u w' σ', (Instr.makeSlice t lu cu).run P w = .ok u w' ∧ Rep E base σ' w' (if heapKind then H.new (.row e i.size (zeroCellsL z n)) else H) ∧ Goes base σ w σ' w' ∧
      Vr σ' w' (if heapKind then .hsl H.next i.size 0 n else .slice .full i.size (zeroCellsL z n) n) u := by
  obtain ⟨kl, rfl⟩ := natOf_vr hl hlu
  obtain ⟨kc, rfl⟩ := natOf_vr hc hcu
  obtain ⟨ie, zv, za, hie, hzv, hza, hzf, _⟩ := zeroOf_spec hz
  rw [hi] at hie; cases hie
  obtain ⟨hv0, h10⟩ := (ofV_vr (σ := σ) (w := w) hza).flat hzf
  have hzl : zv.cells.size = i.size := by have := hv0.length; simp only [Array.length_toList] at this; omega
  have hle := roomy_le hro
  have hsize := sizeOf_run (P := P) (t := e) (n := i.size) (by simp [sizeOf?, hi]) w
  have hsm := wrap_small hn
  let rc : Array Value := (Array.range (n * i.size)).map (zv.cells[· % zv.cells.size]!)
  have hrs : rc.size = n * i.size := by simp [rc]
  have hrun : (Instr.makeSlice t (.int kl n) (.int kc n)).run P w = .ok (.slice (some ⟨w.heap.size, 0, none⟩) n n) (w.alloc (.cells rc e)) := by
    have htl : ¬ ((i.bytes : Int) * n > 2 ^ 48) := by
      have : (i.bytes : Int) * n = ((n * i.bytes : Nat) : Int) := by rw [Nat.mul_comm]; simp
      rw [this]; omega
    have hroom : (askRoom (n * i.bytes)).run P w = .ok () w := by
      simp only [askRoom]; split <;> rfl
    have htl' : decide ((i.bytes : Int) * n > 2 ^ 48) = false := decide_eq_false htl
    have hneg : decide ((n : Int) < 0) = false := by simp only [decide_eq_false_iff_not]; omega
    have hself : decide ((n : Int) > (n : Int)) = false := by simp
    by_cases h0 : n * i.size = 0
    · have hrow : (Array.range (n * i.size)).map ((#[] : Array Value)[· % (#[] : Array Value).size]!) = rc := by simp only [rc, h0]; simp
      simp only [Instr.makeSlice, Sem.run_bind, run_underlying ht, Result.andThen_ok, asInt, asIntOf, Sem.run_pure, typeInfo, program, Sem.run, hi, hsm, htl', hneg, hself, Bool.or_self, Bool.false_eq_true, if_false, Int.toNat_natCast, hroom, hsize, if_pos h0, hrow]
      rfl
    · simp only [Instr.makeSlice, Sem.run_bind, run_underlying ht, Result.andThen_ok, asInt, asIntOf, Sem.run_pure, typeInfo, program, Sem.run, hi, hsm, htl', hneg, hself, Bool.or_self, Bool.false_eq_true, if_false, Int.toNat_natCast, hroom, hsize, if_neg h0, zeroValue_run hi hzv]
      rfl
  have hzz : VrL σ w (zeroCellsL z n) rc.toList := by
    simp only [rc]; rw [← hzl, range_zero]; exact hv0.zeros n
  have h1 := oneL_zeroCells h10 n
  have hcl : (zeroCellsL z n).length = n * i.size := by rw [zeroCellsL_length, hzk]
  have htake : rc.toList.take (n * i.size) = rc.toList := List.take_of_length_le (by simp; omega)
  cases heapKind with
  | true =>
    obtain ⟨σ', h2, h3, h4⟩ := newRowCells hE hR (grownBy_alloc w (.cells rc e)) (Nat.le_refl _) (e := e) (k := i.size) (n := n) (cap := n) (cur := rc) (heap_alloc_new w _) hrs (by simp only [maxLen]; omega) (Nat.le_refl _) hcl htake hzz h1
    exact ⟨_, _, σ', hrun, h2, h3, .hsl h4 (Nat.le_refl _) (fun _ => rfl)⟩
  | false =>
    obtain ⟨σ', h2, h3, h4⟩ := newFull hE hR (grownBy_alloc w (.cells rc e)) (Nat.le_refl _) (e := e) (k := i.size) (n := n) (cap := n) (cur := rc) (heap_alloc_new w _) (Nat.le_refl _) hcl htake hzz h1 .full (fun _ => rfl)
    exact ⟨_, _, σ', hrun, h2, h3, h4⟩

theorem makeSlice_good (hE : ∀ w w', E w → Below base w w' → E w') (hR : Rep E base σ w H) {t : TypeId} {l c : AV} {lu cu : Value} (hlu : Vr σ w l lu) (hcu : Vr σ w c cu) {heapKind : Bool} {v : AV} {H' : Heap} (h : makeSliceA P heapKind t l c H = some (v, H')) :
    ∃ u w' σ', (Instr.makeSlice t lu cu).run P w = .ok u w' ∧ Vr σ' w' v u ∧ Rep E base σ' w' H' ∧ Goes base σ w σ' w' := by
  unfold makeSliceA at h
  split at h
  case h_2 => cases h
  rename_i e n c' he hl hc
  split at h
  case h_2 => cases h
  rename_i i z hi hz
  split at h
  case isFalse => cases h
  rename_i hcond
  obtain ⟨rfl, h0, hzk, hro⟩ := hcond
  simp only [Option.some.injEq, Prod.mk.injEq] at h
  obtain ⟨rfl, rfl⟩ := h
  obtain ⟨u, w', σ', h1, h2, h3, h4⟩ := makeSlice_good' hE hR hlu hcu hl hc (elemOf_spec he) hi hz h0 hzk hro (by have := roomy_n hro; omega) heapKind
  exact ⟨u, w', σ', h1, h4, h2, h3⟩

/-- A slice becomes a value for good. -/
theorem freeze_good (hR : Rep E base σ w H) {b k n : Nat} {u : Value} (hu : Vr σ w (.hsl b k 0 n) u) {e : TypeId} {cs : List AV} (hc : H.objs b = .row e k cs) (hn : n * k ≤ cs.length) :
    ∃ σ', Rep E base σ' w (H.set b .dead) ∧ Goes base σ w σ' w ∧ Vr σ' w (.slice .ro k (cs.take (n * k)) n) u := by
  cases hu with
  | hsl hφ hcap h0 =>
    rename_i g cap c
    have hd : H.objs b ≠ .dead := by rw [hc]; simp
    obtain ⟨g', cap', hφ', hs⟩ := hR.obj b hd
    rw [hφ] at hφ'; cases hφ'
    rw [hc] at hs
    obtain ⟨hb, hm, cur, n', hh, hsz, hcn, hnc, hv, h1, hG⟩ := hs
    have hk := hR.kill b
    have hle := σ.le_mark g (n * k)
    have hlt := (hR.freshφ b g cap hφ).2
    have hp := hk.protect g (n * k) hlt
      (fun x c' hx hφx => by
        have hxb : x ≠ b ∧ H.objs x ≠ .dead := by
          simp only [Heap.set] at hx
          split at hx
          · exact (hx rfl).elim
          · exact ⟨by assumption, hx⟩
        exact hxb.1 (hR.inj x b g c' cap hxb.2 hd hφx hφ))
      (fun t x ht hT => hR.tipObj t b g x cap ht hd hT hφ)
    refine ⟨_, hp, ⟨hle, .refl _ _, .refl _ _, fun x _ hL => ⟨hL.mark (fun e => hL.φ b cap (e ▸ hφ)), rfl⟩⟩, .slice (by rw [List.length_take]; omega) hcap (vs := (cur.toList.take cs.length).take (n * k)) (fun j v hj => ?_) ((hv.take _).mono hle (.refl _ _)) (oneL_take h1 _) trivial⟩
    rw [List.take_take] at hj
    have hjl : j < n * k := by
      have := (List.getElem?_eq_some_iff.1 hj).1
      simp at this; omega
    refine ⟨?_, .inr ⟨rfl, by omega⟩⟩
    rw [cell_of_row w g _ cur e (0, 0) hh, Nat.zero_add]
    rw [List.getElem?_take] at hj
    split at hj
    · simpa using hj
    · cases hj
end
end Go.AM
