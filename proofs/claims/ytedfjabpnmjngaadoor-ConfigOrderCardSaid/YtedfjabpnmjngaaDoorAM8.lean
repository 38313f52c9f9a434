/- Each operation of the abstract machine, held against the kit's: append and copy, whole. -/
import Derived.Test.YtedfjabpnmjngaaDoorAM7
set_option linter.unusedSimpArgs false
set_option linter.unusedVariables false
namespace Go.AM
open Go Go.RowKit

section
variable {P : Program} {E : World → Prop} {base : Nat} {σ : Sim} {w : World} {H : Heap}

/-- A block turns that nothing writes any more, but where nothing is read. -/
theorem Rep.other (hE : ∀ w w', E w → Below base w w' → E w') (h : Rep E base σ w H) {g : Nat} (hb : base ≤ g) {w' : World} (hg : w.grownBy w' (some g))
    (hG : ∀ j v, σ.G g j → w.cell? ⟨g, j, none⟩ = some v → w'.cell? ⟨g, j, none⟩ = some v) (ho : ∀ b c, H.objs b ≠ .dead → σ.φ b = some (g, c) → False)
    (ht : ∀ t x, (H.tips t).isSome → σ.T t = some (g, x) → False) (hnL : ¬ Loose σ g) : Rep E base σ w' H ∧ Goes base σ w σ w' := by
  have hbe : Below base w w' := (Below.refl base w).grown hg h.baseLe (by simp; exact hb)
  have same : ∀ x, x < w.heap.size → x ≠ g → w'.heap[x]? = w.heap[x]? := fun x hl hx => hg.block x hl (by simp [hx])
  have hk : Keeps σ w w' := by
    intro x j v hj hc
    by_cases hx : x = g
    · subst hx; exact hG j v hj hc
    · rw [← hc]; exact World.cell?_of_block (a := ⟨x, j, none⟩) (same x (h.freshG x j hj) hx)
  refine ⟨⟨hE _ _ h.env hbe, Nat.le_trans h.baseLe hg.size, fun x hx => ?_, h.inj, fun t e hh => ?_, h.tipInj, h.tipObj, fun b g c hφ => ?_, fun t g x hT => ?_, fun g j hG => ?_, h.freshO, h.freshTip⟩, ⟨.refl σ, hk, hbe, fun x hl hL => ⟨hL, same x hl (fun e => hnL (e ▸ hL))⟩⟩⟩
  · obtain ⟨g', cap', hφ', hs'⟩ := h.obj x hx
    exact ⟨g', cap', hφ', hs'.mono (.refl σ) hk (same g' (h.freshφ x g' cap' hφ').2 (fun e => ho x cap' hx (e ▸ hφ'))) fun _ hj => hj⟩
  · obtain ⟨g', c1, k, n, hT, hs'⟩ := h.tip t e hh
    exact ⟨g', c1, k, n, hT, hs'.mono (same g' (h.freshT t g' _ hT).2 (fun e' => ht t _ (by simp [hh]) (e' ▸ hT))) fun _ hj => hj⟩
  · exact ⟨(h.freshφ b g c hφ).1, Nat.lt_of_lt_of_le (h.freshφ b g c hφ).2 hg.size⟩
  · exact ⟨(h.freshT t g x hT).1, Nat.lt_of_lt_of_le (h.freshT t g x hT).2 hg.size⟩
  · exact Nat.lt_of_lt_of_le (h.freshG g j hG) hg.size

theorem spend_tips {H : Heap} {t t' : Nat} (h : ((H.spend t).tips t').isSome) : t' ≠ t ∧ (H.tips t').isSome := by
  simp only [Heap.spend] at h
  split at h
  · cases h
  · exact ⟨by assumption, h⟩
theorem kill_objs {H : Heap} {b b' : Nat} (h : (H.set b .dead).objs b' ≠ .dead) : b' ≠ b ∧ H.objs b' ≠ .dead := by
  simp only [Heap.set] at h
  split at h
  · exact (h rfl).elim
  · exact ⟨by assumption, h⟩

theorem grown_draw (w : World) (o : Obj) : w.grownBy (w.drew.alloc o) none := ⟨rfl, rfl, rfl, by simp, fun k hk _ => heap_alloc_old w.drew _ k hk⟩
theorem new_draw (w : World) (o : Obj) : (w.drew.alloc o).heap[w.heap.size]? = some o := heap_alloc_new w.drew _

/-- A slice in new memory. -/
theorem newSlice_good (hE : ∀ w w', E w → Below base w w' → E w') (hR : Rep E base σ w H) {e : TypeId} {i : TypeInfo} {z : Value} (hz : z.cells.size = i.size) {cs : List AV} {vs : List Value} {n cap : Nat}
    (hl : cs.length = n * i.size) (hv : VrL σ w cs vs) (h1 : oneL cs = true) (hn : n ≤ cap) (hcap : cap ≤ maxLen) (heapKind : Bool) {cur : Array Value}
    (hcur : cur = vs.toArray ++ Builtin.zeroCells z.cells (cap - n)) {v : AV} {H' : Heap} (hnew : newSlice heapKind e i.size cs n H = (v, H')) :
    ∃ σ', Rep E base σ' (w.drew.alloc (.cells cur e)) H' ∧ Goes base σ w σ' (w.drew.alloc (.cells cur e)) ∧ Vr σ' (w.drew.alloc (.cells cur e)) v (.slice (some ⟨w.heap.size, 0, none⟩) n cap) := by
  have hvl := hv.length
  have hsz : cur.size = cap * i.size := by
    subst hcur
    simp only [Array.size_append, List.size_toArray, size_zeroCells, hz, ← hvl, hl, ← Nat.add_mul]
    congr 1; omega
  have htake : cur.toList.take (n * i.size) = vs := by
    subst hcur
    simp only [Array.toList_append]
    rw [← hl, hvl]
    exact List.take_left
  unfold newSlice at hnew
  cases heapKind with
  | true =>
    simp only [if_true, Prod.mk.injEq] at hnew
    obtain ⟨rfl, rfl⟩ := hnew
    obtain ⟨σ', h2, h3, h4⟩ := newRowCells hE hR (grown_draw w _) (Nat.le_refl _) (new_draw w _) hsz hcap hn hl htake hv h1
    exact ⟨σ', h2, h3, .hsl h4 hn (fun _ => rfl)⟩
  | false =>
    simp only [Bool.false_eq_true, if_false, Prod.mk.injEq] at hnew
    obtain ⟨rfl, rfl⟩ := hnew
    exact newTipCells hE hR (grown_draw w _) (Nat.le_refl _) (new_draw w _) hsz hcap hn hl htake hv h1

theorem append_good (hE : ∀ w w', E w → Below base w w' → E w') (hR : Rep E base σ w H) {t t' ty : TypeId} {heapKind : Bool} {s x : AV} {su xu : Value} (hs : Vr σ w s su) (hx : Vr σ w x xu) {v : AV} {H' : Heap}
    (h : appendA P heapKind t t' s x H = some (v, H')) :
    ∃ u w' σ', (Builtin.append_ #[t, t'] ty #[su, xu]).run P w = .ok u w' ∧ Vr σ' w' v u ∧ Rep E base σ' w' H' ∧ Goes base σ w σ' w' := by
  unfold appendA at h
  cases he : elemOf? P t with
  | none => rw [he] at h; cases h
  | some e =>
    rw [he] at h
    have ht : P.underlying t = some (.slice e) := by
      unfold elemOf? at he
      split at he
      · rename_i e' hu; cases he; exact hu
      · cases he
    simp only at h
    cases hi : P.info? e with
    | none => rw [hi] at h; cases h
    | some i =>
      rw [hi] at h
      simp only at h
      split at h
      · rename_i hc
        obtain ⟨ht', hk, hz⟩ := hc
        cases hzo : zeroOf P e with
        | none => rw [hzo] at hz; cases hz
        | some zs =>
          rw [hzo] at hz
          simp only [Option.map_some, Option.some.injEq] at hz
          obtain ⟨ie, zv, za, hie, hzv, hza, hzf, _⟩ := zeroOf_spec hzo
          rw [hi] at hie; cases hie
          have hzl : zv.cells.size = i.size := by
            have := ((ofV_vr (σ := σ) (w := w) hza).flat hzf).1.length
            simp only [Array.length_toList] at this; omega
          cases hsc : sliceCells i.size H x with
          | none => rw [hsc] at h; cases h
          | some p =>
            obtain ⟨xs, m⟩ := p
            rw [hsc] at h
            simp only at h
            obtain ⟨news, hsrc⟩ := source_of (P := P) hR hx hsc
            have h1n := hsrc.vr.one hsrc.one
            have zero : ∀ {b : Option Addr} {n c : Nat}, m = 0 → n ≤ c → (Builtin.append_ #[t, t'] ty #[.slice b n c, xu]).run P w = .ok (.slice b n c) w := fun hm hnc => append_zero_run ht hi ht' hsrc hm hnc
            have hxl : xs.length = m * i.size := by rw [hsrc.vr.length, hsrc.len]
            -- a slice in new memory
            have grow : ∀ {H1 : Heap} (_ : Rep E base σ w H1) {b : Option Addr} {n c : Nat} {cells : List AV} {olds : List Value} (_ : cells.length = n * i.size) (_ : VrL σ w cells olds) (_ : oneL cells = true)
                (_ : ∀ w' : World, w'.heap = w.heap → (Builtin.firstCells i.size n (.slice b n c)).run P w' = .ok olds.toArray w') (_ : c < n + m) (_ : roomy (n + m) i.bytes = true) (_ : n + m ≤ 9223372036854775807) (hk' : Bool) {v : AV} {H' : Heap}
                (_ : newSlice hk' e i.size (cells ++ xs) (n + m) H1 = (v, H')),
                ∃ u w' σ', (Builtin.append_ #[t, t'] ty #[.slice b n c, xu]).run P w = .ok u w' ∧ Vr σ' w' v u ∧ Rep E base σ' w' H' ∧ Goes base σ w σ' w' := by
              intro H1 hR1 b n c cells olds hcl hov h1o hold hcm hro h63 hk' v H' hnew
              have hrun := append_grow_run (ty := ty) ht hi hzv ht' hsrc hold hcm (by have := roomy_le hro; omega) h63
              have hcap := grownCap_ge w (n + m) c e
              have hcm' := grownCap_le_maxLen w (n + m) c e (by simp only [maxLen]; omega)
              obtain ⟨σ', h2, h3, h4⟩ := newSlice_good hE hR1 (e := e) (i := i) hzl (cs := cells ++ xs) (vs := olds ++ news) (n := n + m) (by rw [List.length_append, hcl, hxl, Nat.add_mul]) (hov.append hsrc.vr)
                (oneL_append h1o hsrc.one) hcap hcm' hk' (cur := olds.toArray ++ news.toArray ++ Builtin.zeroCells zv.cells (grownCap w (n + m) c e - (n + m))) (by apply Array.ext'; simp) hnew
              exact ⟨_, _, σ', hrun, h4, h2, h3⟩
            cases s <;> try (cases h; done)
            case nilSlice =>
              cases hs
              simp only at h
              split at h
              · rename_i hm
                cases h
                exact ⟨_, w, σ, zero hm (Nat.le_refl _), .nilSlice, hR, .refl _ _ _⟩
              · rename_i hm
                split at h
                · rename_i hro
                  simp only [Option.some.injEq] at h
                  have := roomy_n hro
                  exact grow hR (b := none) (n := 0) (c := 0) (cells := []) (olds := []) (by simp) .nil rfl (fun w' _ => by simp [Builtin.firstCells]) (by omega) (by simpa using hro) (by omega) heapKind (by simpa using h)
                · cases h
            case slice r k' cells n =>
              cases hs with
              | slice hl hcn hlies hv h1 hr =>
                rename_i g o c vs
                have hvl := hv.length
                have hold : ∀ w' : World, w'.heap = w.heap → (Builtin.firstCells k' n (.slice (some ⟨g, o, none⟩) n c)).run P w' = .ok vs.toArray w' := fun w' hw => by
                  have := run_loadCells_list (P := P) w' ⟨g, o, none⟩ vs (fun j x hx => by
                    rw [add_spot]
                    have := (hlies j x hx).1
                    simpa [World.cell?, hw] using this)
                  rw [← hvl, hl] at this
                  exact this
                cases r with
                | full =>
                  simp only at h
                  split at h
                  · rename_i hkk; subst hkk
                    split at h
                    · rename_i hm; cases h
                      exact ⟨_, w, σ, zero hm hcn, .slice hl hcn hlies hv h1 hr, hR, .refl _ _ _⟩
                    · split at h
                      · rename_i hm hro
                        simp only [Option.some.injEq] at h
                        have := roomy_n hro
                        have hcn' : c = n := hr
                        exact grow hR hl hv h1 hold (by omega) hro (by omega) heapKind h
                      · cases h
                  · cases h
                | ro =>
                  simp only at h
                  split at h
                  · rename_i hm; cases h
                    exact ⟨_, w, σ, zero hm hcn, .slice hl hcn hlies hv h1 hr, hR, .refl _ _ _⟩
                  · cases h
                | tip tt =>
                  simp only at h
                  split at h
                  · rename_i hcond
                    obtain ⟨rfl, htip, hh⟩ := hcond
                    subst hh
                    split at h
                    · rename_i hm; cases h
                      exact ⟨_, w, σ, zero hm hcn, .slice hl hcn hlies hv h1 hr, hR, .refl _ _ _⟩
                    · split at h
                      · rename_i hm hro
                        simp only [Option.some.injEq] at h
                        have hn' := roomy_n hro
                        obtain ⟨rfl, hT⟩ := hr
                        have hsp := hR.spend tt
                        by_cases hroom : n + m ≤ c
                        · obtain ⟨g', c', k', n', hT', hb, hcm, _, cur, hg, hsz, hG⟩ := hR.tip tt e htip
                          rw [hT] at hT'; cases hT'
                          have hnl : news.length = m * i.size := hsrc.len
                          have hle : (n + m) * i.size ≤ cur.size := by rw [hsz]; exact Nat.mul_le_mul_right _ hroom
                          have hfit : n * i.size + news.length ≤ cur.size := by rw [hnl, ← Nat.add_mul]; exact hle
                          have hrun := append_room_run (ty := ty) ht hi ht' hsrc h1n hg hroom hfit
                          have hnoobj : ∀ b cc, (H.spend tt).objs b ≠ .dead → σ.φ b = some (g, cc) → False := fun b cc hd hφ => hR.tipObj tt b g _ cc (by simp [htip]) hd hT hφ
                          have hnotip : ∀ t x, ((H.spend tt).tips t).isSome → σ.T t = some (g, x) → False := fun t x ht2 hT2 => by
                            obtain ⟨hne, ht3⟩ := spend_tips ht2
                            exact hne (hR.tipInj t tt g x _ ht3 (by simp [htip]) hT2 hT)
                          let cur' : Array Value := (cur.toList.take (n * i.size) ++ news ++ cur.toList.drop (n * i.size + news.length)).toArray
                          have hrow : (w.setRow g cur').heap[g]? = some (.cells cur' e (0, 0)) := setRow_heap w g cur cur' e _ hg
                          have hold' : cur.toList.take (n * i.size) = vs := by
                            apply List.ext_getElem?
                            intro j
                            rw [List.getElem?_take]
                            split
                            · rename_i hj
                              have hjv : j < vs.length := by omega
                              have := (hlies j vs[j] (by simp)).1
                              rw [cell_of_row w g _ cur e _ hg, Nat.zero_add] at this
                              rw [List.getElem?_eq_getElem hjv]
                              simpa using this
                            · rw [List.getElem?_eq_none (by omega)]
                          obtain ⟨h2, h3⟩ := hsp.other hE hb (grownBy_setRow w g cur') (fun j v hGj hcell => by
                            rw [cell_of_row w g _ cur e _ hg] at hcell
                            rw [cell_of_row _ g _ cur' e _ hrow]
                            have hj : j < n * i.size := Nat.lt_of_not_le fun hle' => hG j hle' hGj
                            have : cur'.toList[j]? = cur.toList[j]? := by
                              simp only [cur']
                              rw [List.append_assoc, List.getElem?_append_left (by simp; omega), List.getElem?_take, if_pos hj]
                            simpa using this.trans (by simpa using hcell)) hnoobj hnotip (fun hL => hL.T _ _ hT)
                          unfold newSlice at h
                          simp only [Bool.false_eq_true, if_false, Prod.mk.injEq] at h
                          obtain ⟨rfl, rfl⟩ := h
                          have hlt : g < (w.setRow g cur').heap.size := (Array.getElem?_eq_some_iff.1 hrow).1
                          have hcs' : cur'.size = c * i.size := by
                            simp only [cur', List.size_toArray, List.length_append, List.length_take, List.length_drop, Array.length_toList]; omega
                          have h4 := h2.addTip e g c i.size (n + m) hlt hnoobj hnotip ⟨hb, hcm, hroom, cur', hrow, hcs', fun j hj hGj => by
                            rcases hGj with hGj | ⟨_, hGj⟩
                            · exact hG j (by have := Nat.mul_le_mul_right i.size (Nat.le_add_right n m); omega) hGj
                            · omega⟩
                          have hle4 := h2.le_newTip g c i.size (n + m)
                          refine ⟨_, _, _, hrun, .slice (vs := vs ++ news) (by rw [List.length_append, hl, hxl, Nat.add_mul]) hroom (fun j v hj => ?_) ((((hv.goes h3).append (hsrc.vr.goes h3))).mono hle4 (.refl _ _)) (oneL_append h1 hsrc.one) ⟨rfl, by simp [Sim.newTip]⟩, h4, ⟨h3.le.trans hle4, h3.keeps, h3.below, fun x hx hL => ⟨(h3.frame x hx hL).1.newTip (fun e => hL.T _ _ (e ▸ hT)), (h3.frame x hx hL).2⟩⟩⟩
                          have hjl : j < (n + m) * i.size := by
                            have := (List.getElem?_eq_some_iff.1 hj).1
                            rw [List.length_append, ← hvl, hl, hnl, ← Nat.add_mul] at this; exact this
                          refine ⟨?_, .inr ⟨rfl, by omega⟩⟩
                          rw [cell_of_row _ g _ cur' e _ hrow, Nat.zero_add]
                          have : cur'.toList[j]? = some v := by
                            simp only [cur']
                            rw [hold', List.getElem?_append_left (by rw [List.length_append, ← hvl, hl, hnl, ← Nat.add_mul]; exact hjl)]
                            exact hj
                          simpa using this
                        · exact grow hsp hl hv h1 hold (by omega) hro (by omega) false h
                      · cases h
                  · cases h
            case hsl b k' off n =>
              cases hs with
              | hsl hφ hcn h0 =>
                rename_i g cap c
                simp only at h
                split at h
                · rename_i hcond
                  obtain ⟨rfl, rfl, rfl⟩ := hcond
                  have hcap := h0 rfl
                  subst hcap
                  cases hob : H.objs b <;> rw [hob] at h <;> try (cases h; done)
                  rename_i e' k'' cs
                  simp only at h
                  split at h
                  · rename_i hcond
                    obtain ⟨rfl, rfl, hncs⟩ := hcond
                    split at h
                    · rename_i hm; cases h
                      exact ⟨_, w, σ, zero hm hcn, .hsl hφ hcn h0, hR, .refl _ _ _⟩
                    · split at h
                      · rename_i hm hro
                        simp only [Option.some.injEq] at h
                        have hn' := roomy_n hro
                        have hd : H.objs b ≠ .dead := by rw [hob]; simp
                        obtain ⟨g', cap', hφ', hst⟩ := hR.obj b hd
                        rw [hφ] at hφ'; cases hφ'
                        rw [hob] at hst
                        obtain ⟨hb, hcm, cur, n', hg, hsz, hcn', hnc', hv, h1, hG⟩ := hst
                        have hkl := hR.kill b
                        have hv' : VrL σ w (cs.take (n * i.size)) (cur.toList.take (n * i.size)) := by
                          have := hv.take (n * i.size)
                          rwa [List.take_take, Nat.min_eq_left hncs] at this
                        have hl' : (cs.take (n * i.size)).length = n * i.size := by rw [List.length_take]; omega
                        have hlen' : (cur.toList.take (n * i.size)).length = n * i.size := by rw [← hv'.length, hl']
                        by_cases hroom : n + m ≤ c
                        · have hnl : news.length = m * i.size := hsrc.len
                          have hle : (n + m) * i.size ≤ cur.size := by rw [hsz]; exact Nat.mul_le_mul_right _ hroom
                          have hfit : n * i.size + news.length ≤ cur.size := by rw [hnl, ← Nat.add_mul]; exact hle
                          have hrun := append_room_run (ty := ty) ht hi ht' hsrc h1n hg hroom hfit
                          have hnoobj : ∀ b' cc, (H.set b .dead).objs b' ≠ .dead → σ.φ b' = some (g, cc) → False := fun b' cc hd' hφ' => by
                            obtain ⟨hne, hd2⟩ := kill_objs hd'
                            exact hne (hR.inj b' b g cc c hd2 hd hφ' hφ)
                          have hnotip : ∀ t x, ((H.set b .dead).tips t).isSome → σ.T t = some (g, x) → False := fun t x ht2 hT2 => hR.tipObj t b g x c ht2 hd hT2 hφ
                          let cur' : Array Value := (cur.toList.take (n * i.size) ++ news ++ cur.toList.drop (n * i.size + news.length)).toArray
                          have hrow : (w.setRow g cur').heap[g]? = some (.cells cur' e' (0, 0)) := setRow_heap w g cur cur' e' _ hg
                          obtain ⟨h2, h3⟩ := hkl.other hE hb (grownBy_setRow w g cur') (fun j v hGj _ => (hG j hGj).elim) hnoobj hnotip (fun hL => hL.φ _ _ hφ)
                          unfold newSlice at h
                          simp only [if_true, Prod.mk.injEq] at h
                          obtain ⟨rfl, rfl⟩ := h
                          have hlt : g < (w.setRow g cur').heap.size := (Array.getElem?_eq_some_iff.1 hrow).1
                          have hcs' : cur'.size = c * i.size := by
                            simp only [cur', List.size_toArray, List.length_append, List.length_take, List.length_drop, Array.length_toList]; omega
                          have hle4 := h2.le_newObj g c
                          have hll : (cs.take (n * i.size) ++ xs).length = (n + m) * i.size := by rw [List.length_append, hl', hxl, Nat.add_mul]
                          have h4 := h2.addObj (.row e' i.size (cs.take (n * i.size) ++ xs)) g c hlt hnoobj hnotip ⟨hb, hcm, cur', n + m, hrow, hcs', hll, hroom, by
                            rw [hll]
                            have : cur'.toList.take ((n + m) * i.size) = cur.toList.take (n * i.size) ++ news := by
                              simp only [cur']
                              rw [← hll, List.length_append, hl', hxl, ← hnl]
                              have : n * i.size + news.length = (cur.toList.take (n * i.size) ++ news).length := by rw [List.length_append, hlen']
                              rw [this]; exact List.take_left
                            rw [this]
                            exact ((hv'.goes h3).append (hsrc.vr.goes h3)).mono hle4 (.refl _ _), oneL_append (oneL_take h1 _) hsrc.one, hG⟩
                          exact ⟨_, _, _, hrun, .hsl (by simp [Sim.newObj]) hroom (fun _ => rfl), h4, ⟨h3.le.trans hle4, h3.keeps, h3.below, fun x hx hL => ⟨(h3.frame x hx hL).1.newObj (fun e => hL.φ _ _ (e ▸ hφ)), (h3.frame x hx hL).2⟩⟩⟩
                        · exact grow hkl hl' hv' (oneL_take h1 _) (fun w' hw => by
                            have := run_loadCells_list (P := P) w' ⟨g, 0, none⟩ (cur.toList.take (n * i.size)) (fun j x hx => by
                              rw [add_spot, Nat.zero_add]
                              have hc2 : w.cell? ⟨g, j, none⟩ = some x := by
                                rw [cell_of_row w g _ cur e' _ hg]
                                rw [List.getElem?_take] at hx
                                split at hx
                                · simpa using hx
                                · cases hx
                              simpa [World.cell?, hw] using hc2)
                            rw [hlen'] at this
                            exact this) (by omega) hro (by omega) true h
                      · cases h
                  · cases h
                · cases h
      · cases h
end
end Go.AM
