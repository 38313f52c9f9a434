/- Each operation of the abstract machine, held against the kit's: second part. -/
import Derived.Test.YtedfjabpnmjngaaDoorAM4
import Derived.Laws.Tables
import Derived.Laws.Slices
set_option linter.unusedSimpArgs false
set_option linter.unusedVariables false
namespace Go.AM
open Go Go.RowKit

section
variable {P : Program} {E : World → Prop} {base : Nat} {σ : Sim} {w : World} {H : Heap}

theorem Loose.newObj {x b g cap : Nat} (h : Loose σ x) (hx : x ≠ g) : Loose (σ.newObj b g cap) x := by
  refine ⟨fun y c hy => ?_, h.T, h.G⟩
  by_cases hyb : y = b
  · simp only [Sim.newObj, if_pos hyb, Option.some.injEq, Prod.mk.injEq] at hy
    exact hx hy.1.symm
  · simp only [Sim.newObj, if_neg hyb] at hy
    exact h.φ y c hy
theorem Loose.newTip {x t g c k n : Nat} (h : Loose σ x) (hx : x ≠ g) : Loose (σ.newTip t g c k n) x := by
  refine ⟨h.φ, fun y z hy => ?_, fun j hj => ?_⟩
  · by_cases hyb : y = t
    · simp only [Sim.newTip, if_pos hyb, Option.some.injEq, Prod.mk.injEq] at hy
      exact hx hy.1.symm
    · simp only [Sim.newTip, if_neg hyb] at hy
      exact h.T y z hy
  · rcases hj with hj | ⟨e, _⟩
    · exact h.G j hj
    · exact hx e
theorem Loose.mark {x g n : Nat} (h : Loose σ x) (hx : x ≠ g) : Loose (σ.mark g n) x := by
  refine ⟨h.φ, h.T, fun j hj => ?_⟩
  rcases hj with hj | ⟨e, _⟩
  · exact h.G j hj
  · exact hx e

/-- A new block, and a new place over it. -/
theorem Rep.allocObj (hE : ∀ w w', E w → Below base w w' → E w') (hR : Rep E base σ w H) {w' : World} (hg : w.grownBy w' none) {g : Nat} (hn : w.heap.size ≤ g) (hlt : g < w'.heap.size) (c : Cell) (cap : Nat)
    (hs : (σ.newObj H.next g cap).φ H.next = some (g, cap) → Goes base σ w (σ.newObj H.next g cap) w' → (∀ j, ¬ (σ.newObj H.next g cap).G g j) → Stands base (σ.newObj H.next g cap) w' g cap c) :
    Rep E base (σ.newObj H.next g cap) w' (H.new c) ∧ Goes base σ w (σ.newObj H.next g cap) w' := by
  obtain ⟨h1, h2⟩ := hR.grow hE hg
  have hle := h1.le_newObj g cap
  have hgo : Goes base σ w (σ.newObj H.next g cap) w' := ⟨hle, h2.keeps, h2.below, fun x hx hL => ⟨(h2.frame x hx hL).1.newObj (by omega), (h2.frame x hx hL).2⟩⟩
  exact ⟨h1.addObj c g cap hlt (fun b c' hd hφ => by have := (hR.freshφ b g c' hφ).2; omega) (fun t x _ hT => by have := (hR.freshT t g x hT).2; omega)
    (hs (by simp [Sim.newObj]) hgo (fun j hj => by have := hR.freshG g j hj; omega)), hgo⟩

theorem grownBy_alloc (w : World) (o : Obj) : w.grownBy (w.alloc o) none := World.grownBy_alloc w o none
theorem size_alloc (w : World) (o : Obj) : (w.alloc o).heap.size = w.heap.size + 1 := by show (w.heap.push o).size = _; simp

theorem newCells (hE : ∀ w w', E w → Below base w w' → E w') (hR : Rep E base σ w H) {cs : List AV} {vs : Array Value} (hv : VrL σ w cs vs.toList) (h1 : oneL cs = true) (e : TypeId) :
    ∃ σ', Rep E base σ' (w.alloc (.cells vs e)) (H.new (.cells cs)) ∧ Goes base σ w σ' (w.alloc (.cells vs e)) ∧ σ'.φ H.next = some (w.heap.size, 0) := by
  obtain ⟨hr, hg⟩ := hR.allocObj hE (grownBy_alloc w (.cells vs e)) (Nat.le_refl _) (by rw [size_alloc]; omega) (.cells cs) 0
    (fun _ hgo hG => ⟨hR.baseLe, vs, e, heap_alloc_new w _, hv.goes hgo, h1, hG⟩)
  exact ⟨_, hr, hg, by simp [Sim.newObj]⟩

theorem newRowCells (hE : ∀ w w', E w → Below base w w' → E w') (hR : Rep E base σ w H) {w' : World} (hg : w.grownBy w' none) {g : Nat} (hn : w.heap.size ≤ g) {cs : List AV} {vs : List Value} {e : TypeId} {k n cap : Nat} {cur : Array Value}
    (hh : w'.heap[g]? = some (.cells cur e (0, 0))) (hsz : cur.size = cap * k) (hcap : cap ≤ maxLen) (hnc : n ≤ cap) (hcs : cs.length = n * k) (hcur : cur.toList.take (n * k) = vs) (hv : VrL σ w cs vs) (h1 : oneL cs = true) :
    ∃ σ', Rep E base σ' w' (H.new (.row e k cs)) ∧ Goes base σ w σ' w' ∧ σ'.φ H.next = some (g, cap) := by
  have hlt : g < w'.heap.size := (Array.getElem?_eq_some_iff.1 hh).1
  obtain ⟨hr, hgo⟩ := hR.allocObj hE hg hn hlt (.row e k cs) cap
    (fun _ hgo hG => ⟨Nat.le_trans hR.baseLe hn, hcap, cur, n, hh, hsz, hcs, hnc, by rw [hcs, hcur]; exact hv.goes hgo, h1, hG⟩)
  exact ⟨_, hr, hgo, by simp [Sim.newObj]⟩

/-- A new block that is a slice's own from now on. -/
theorem newTipCells (hE : ∀ w w', E w → Below base w w' → E w') (hR : Rep E base σ w H) {w' : World} (hg : w.grownBy w' none) {g : Nat} (hn : w.heap.size ≤ g) {cs : List AV} {vs : List Value} {e : TypeId} {k n cap : Nat} {cur : Array Value}
    (hh : w'.heap[g]? = some (.cells cur e (0, 0))) (hsz : cur.size = cap * k) (hcap : cap ≤ maxLen) (hnc : n ≤ cap) (hcs : cs.length = n * k) (hcur : cur.toList.take (n * k) = vs) (hv : VrL σ w cs vs) (h1 : oneL cs = true) :
    ∃ σ', Rep E base σ' w' (H.newTip e) ∧ Goes base σ w σ' w' ∧ Vr σ' w' (.slice (.tip H.next) k cs n) (.slice (some ⟨g, 0, none⟩) n cap) := by
  have hlt : g < w'.heap.size := (Array.getElem?_eq_some_iff.1 hh).1
  obtain ⟨hr, hgo⟩ := hR.grow hE hg
  have hle := hr.le_newTip g cap k n
  have hgo' : Goes base σ w (σ.newTip H.next g cap k n) w' := ⟨hle, hgo.keeps, hgo.below, fun x hx hL => ⟨(hgo.frame x hx hL).1.newTip (by omega), (hgo.frame x hx hL).2⟩⟩
  have hr' := hr.addTip e g cap k n hlt (fun b c' hd hφ => by have := (hR.freshφ b g c' hφ).2; omega) (fun t x _ hT => by have := (hR.freshT t g x hT).2; omega)
    ⟨Nat.le_trans hR.baseLe hn, hcap, hnc, cur, hh, hsz, fun j hj hG => by
      rcases hG with hG | ⟨_, hG⟩
      · have := hR.freshG g j hG; omega
      · omega⟩
  refine ⟨_, hr', hgo', .slice hcs hnc (vs := vs) (fun j v hj => ?_) (hv.goes hgo') h1 ⟨rfl, by simp [Sim.newTip]⟩⟩
  have hjl : j < n * k := by
    have := (List.getElem?_eq_some_iff.1 hj).1
    rw [← hcur] at this; simp at this; omega
  refine ⟨?_, .inr ⟨rfl, by omega⟩⟩
  rw [cell_of_row w' g _ cur e (0, 0) hh, Nat.zero_add]
  rw [← hcur, List.getElem?_take, if_pos hjl] at hj
  simpa using hj

/-- A new block that is never written: a slice that ends where its block ends. -/
theorem newFull (hE : ∀ w w', E w → Below base w w' → E w') (hR : Rep E base σ w H) {w' : World} (hg : w.grownBy w' none) {g : Nat} (hn : w.heap.size ≤ g) {cs : List AV} {e : TypeId} {k n cap : Nat} {cur : Array Value} {fr : Nat × Nat}
    (hh : w'.heap[g]? = some (.cells cur e fr)) (hnc : n ≤ cap) (hcs : cs.length = n * k) {vs : List Value} (hcur : cur.toList.take (n * k) = vs) (hv : VrL σ w cs vs) (h1 : oneL cs = true) (r : Right) (hr : ∀ σ : Sim, RightOk σ r g 0 k n cap) :
    ∃ σ', Rep E base σ' w' H ∧ Goes base σ w σ' w' ∧ Vr σ' w' (.slice r k cs n) (.slice (some ⟨g, 0, none⟩) n cap) := by
  have hlt : g < w'.heap.size := (Array.getElem?_eq_some_iff.1 hh).1
  obtain ⟨hr1, hgo⟩ := hR.grow hE hg
  have hgo' : Goes base σ w (σ.mark g (n * k)) w' := ⟨σ.le_mark _ _, hgo.keeps, hgo.below, fun x hx hL => ⟨(hgo.frame x hx hL).1.mark (by omega), (hgo.frame x hx hL).2⟩⟩
  refine ⟨_, hr1.protect g (n * k) hlt (fun b c' hd hφ => by have := (hR.freshφ b g c' hφ).2; omega) (fun t x _ hT => by have := (hR.freshT t g x hT).2; omega), hgo',
    .slice hcs hnc (vs := vs) (fun j v hj => ?_) (hv.goes hgo') h1 (hr _)⟩
  have hjl : j < n * k := by
    have := (List.getElem?_eq_some_iff.1 hj).1
    rw [← hcur] at this; simp at this; omega
  refine ⟨?_, .inr ⟨rfl, by omega⟩⟩
  rw [cell_of_row w' g _ cur e fr hh, Nat.zero_add]
  rw [← hcur, List.getElem?_take, if_pos hjl] at hj
  simpa using hj

theorem zeroVal_spec {t : TypeId} {z : AV} (h : zeroVal P t = some z) : ∃ i zv, P.info? t = some i ∧ i.zero = some zv ∧ ofV zv = some z := by
  unfold zeroVal at h
  cases hi : P.info? t with
  | none => simp [hi] at h
  | some i =>
    cases hz : i.zero with
    | none => simp [hi, hz] at h
    | some zv => exact ⟨i, zv, rfl, hz, by simpa [hi, hz] using h⟩
theorem zeroOf_spec {t : TypeId} {zs : List AV} (h : zeroOf P t = some zs) : ∃ i zv z, P.info? t = some i ∧ i.zero = some zv ∧ ofV zv = some z ∧ z.flat = some zs ∧ zeroVal P t = some z := by
  unfold zeroOf at h
  cases hz : zeroVal P t with
  | none => simp [hz] at h
  | some z =>
    obtain ⟨i, zv, h1, h2, h3⟩ := zeroVal_spec hz
    exact ⟨i, zv, z, h1, h2, h3, by simpa [hz] using h, rfl⟩
theorem zeroValue_run {t : TypeId} {i : TypeInfo} {z : Value} (hi : P.info? t = some i) (hz : i.zero = some z) (w : World) : (zeroValue t).run P w = .ok z w := by
  simp only [zeroValue, typeInfo, program, Sem.run_bind, Sem.run, Result.andThen_ok, hi, hz, Sem.run_pure]

theorem foldl_set (off : Nat) : ∀ (l : List Value) (k : Nat) (cells : Array Value), off + k + l.length ≤ cells.size →
    ((l.zipIdx k).foldl (fun cs (p : Value × Nat) => cs.setIfInBounds (off + p.2) p.1) cells).toList = cells.toList.take (off + k) ++ l ++ cells.toList.drop (off + k + l.length)
  | [], k, cells, _ => by simp
  | v :: l, k, cells, h => by
    simp only [List.zipIdx_cons, List.foldl_cons]
    rw [foldl_set off l (k + 1) _ (by simp at h ⊢; omega)]
    simp only [Array.toList_setIfInBounds, List.length_cons] at h ⊢
    have hlt : off + k < cells.toList.length := by rw [Array.length_toList]; omega
    generalize cells.toList = L at hlt ⊢
    rw [List.set_eq_take_append_cons_drop, if_pos hlt]
    have hA : (L.take (off + k)).length = off + k := by rw [List.length_take]; omega
    have e1 : off + (k + 1) = off + k + 1 := by omega
    rw [e1]
    generalize off + k = m at hlt hA ⊢
    have h1 : (L.take m ++ v :: L.drop (m + 1)).take (m + 1) = L.take m ++ [v] := by
      rw [List.take_append, hA, List.take_of_length_le (by omega), show m + 1 - m = 1 by omega]; rfl
    have h2 : (L.take m ++ v :: L.drop (m + 1)).drop (m + 1 + l.length) = L.drop (m + (l.length + 1)) := by
      rw [List.drop_append, hA, List.drop_of_length_le (by omega), show m + 1 + l.length - m = l.length + 1 by omega, List.nil_append, List.drop_succ_cons, List.drop_drop]
      congr 1; omega
    rw [h1, h2]
    simp

theorem fill_good {σ : Sim} {w : World} (placeA placeC : Nat → Option (Nat × Nat)) (hp : ∀ i p, placeA i = some p → placeC i = some p) :
    ∀ (pa : List (Nat × AV)) (pc : List (Nat × Value)) (ca : List AV) (cc : Array Value) (ra : List AV),
      pa.length = pc.length → (∀ i : Nat, ∀ x y, pa[i]? = some x → pc[i]? = some y → x.1 = y.1 ∧ Vr σ w x.2 y.2) →
      VrL σ w ca cc.toList → oneL ca = true → fillAt placeA ca pa = some ra →
      ∃ rc, Instr.fill placeC cc pc = some rc ∧ VrL σ w ra rc.toList ∧ oneL ra = true
  | [], [], ca, cc, ra, _, _, hv, h1, h => by simp only [fillAt, Option.some.injEq] at h; subst h; exact ⟨cc, rfl, hv, h1⟩
  | [], _ :: _, _, _, _, hl, _, _, _, _ => by simp at hl
  | _ :: _, [], _, _, _, hl, _, _, _, _ => by simp at hl
  | (i, v) :: pa, (i', u) :: pc, ca, cc, ra, hl, hr, hv, h1, h => by
    have h0 := hr 0 (i, v) (i', u) (by simp) (by simp)
    obtain ⟨rfl, hvu⟩ := h0
    simp only [fillAt] at h
    cases hpl : placeA i with
    | none => rw [hpl] at h; cases h
    | some p =>
      obtain ⟨off, size⟩ := p
      rw [hpl] at h
      simp only at h
      cases hf : v.flat with
      | none => rw [hf] at h; cases h
      | some vs =>
        rw [hf] at h
        simp only at h
        split at h
        · rename_i hc
          obtain ⟨hvs, h1v⟩ := hvu.flat hf
          have hlv := hvs.length
          have hlc := hv.length
          simp only [Array.length_toList] at hlv hlc
          have hfold : (u.cells.zipIdx.foldl (fun cs (c, j) => cs.setIfInBounds (off + j) c) cc).toList = cc.toList.take off ++ u.cells.toList ++ cc.toList.drop (off + u.cells.toList.length) := by
            rw [← Array.foldl_toList, Array.toList_zipIdx]
            have := foldl_set off u.cells.toList 0 cc (by simp; omega)
            simpa using this
          have ih := fill_good placeA placeC hp pa pc (setAt ca off vs) (u.cells.zipIdx.foldl (fun cs (c, j) => cs.setIfInBounds (off + j) c) cc) ra (by simpa using hl)
            (fun j x y hx hy => hr (j + 1) x y (by simpa using hx) (by simpa using hy)) (by rw [hfold]; exact hv.splice hvs off) (oneL_splice h1 h1v off) h
          obtain ⟨rc, hrc, hres⟩ := ih
          refine ⟨rc, ?_, hres⟩
          simp only [Instr.fill, hp i _ hpl]
          rw [if_neg]
          · exact hrc
          · simp only [Bool.or_eq_true, decide_eq_true_eq, not_or]
            exact ⟨by omega, by omega⟩
        · cases h

theorem parts_good {a : AAct} {ac : Act} (ha : ActR σ w a ac) : ∀ (l : List (Nat × Operand)) (vs : List (Nat × AV)), l.mapM (fun p => (a.eval p.2).map (p.1, ·)) = some vs →
    vs.length = (l.map fun (i, x) => (i, ac.eval x)).length ∧ ∀ i : Nat, ∀ x y, vs[i]? = some x → (l.map fun (i, x) => (i, ac.eval x))[i]? = some y → x.1 = y.1 ∧ Vr σ w x.2 y.2
  | [], vs, h => by simp at h; subst h; simp
  | p :: l, vs, h => by
    simp only [List.mapM_cons, Option.bind_eq_bind, Option.pure_def] at h
    cases hp : a.eval p.2 with
    | none => simp [hp] at h
    | some v =>
      cases hr : l.mapM (fun p => (a.eval p.2).map (p.1, ·)) with
      | none => simp [hp, hr] at h
      | some rest =>
        simp [hp, hr] at h
        subst h
        obtain ⟨h1, h2⟩ := parts_good ha l rest hr
        refine ⟨by simp at h1 ⊢; exact h1, fun i x y hx hy => ?_⟩
        cases i with
        | zero => simp at hx hy; subst hx; subst hy; exact ⟨rfl, ha.eval hp⟩
        | succ i => exact h2 i x y (by simpa using hx) (by simpa using hy)

theorem args_good {a : AAct} {ac : Act} (ha : ActR σ w a ac) : ∀ (l : List Operand) (vs : List AV), l.mapM a.eval = some vs → VrL σ w vs (l.map ac.eval)
  | [], vs, h => by simp at h; subst h; exact .nil
  | p :: l, vs, h => by
    simp only [List.mapM_cons, Option.bind_eq_bind, Option.pure_def] at h
    cases hp : a.eval p with
    | none => simp [hp] at h
    | some v =>
      cases hr : l.mapM a.eval with
      | none => simp [hp, hr] at h
      | some rest => simp [hp, hr] at h; subst h; exact .cons (ha.eval hp) (args_good ha l rest hr)

theorem build_good {t : TypeId} {parts : Array (Nat × Operand)} {a : AAct} {ac : Act} (ha : ActR σ w a ac) {vs : List (Nat × AV)} {v : AV}
    (hvs : partsA a parts = some vs) (h : buildA P t vs = some v) :
    ∃ u, (Instr.build t (parts.map fun (i, x) => (i, ac.eval x))).run P w = .ok u w ∧ Vr σ w v u := by
  unfold buildA at h
  split at h
  case h_2 => cases h
  rename_i z places hz hpl
  cases hf : fillAt places z vs with
  | none => rw [hf] at h; cases h
  | some cs =>
  rw [hf] at h; cases h
  obtain ⟨it, zv, za, hi, hzv, hza, hzf, _⟩ := zeroOf_spec hz
  obtain ⟨hv0, h10⟩ := (ofV_vr (σ := σ) (w := w) hza).flat hzf
  obtain ⟨hl, hr⟩ := parts_good ha parts.toList vs hvs
  have hmap : (parts.map fun (i, x) => (i, ac.eval x)).toList = parts.toList.map fun (i, x) => (i, ac.eval x) := by simp
  unfold placesOf at hpl
  split at hpl
  · rename_i fields hu
    cases hm : fields.toList.mapM (fun f => (P.info? f.type).map fun i => (f.offset, i.size)) with
    | none => rw [hm] at hpl; cases hpl
    | some l =>
      rw [hm] at hpl; cases hpl
      obtain ⟨rc, hrc, hv, h1⟩ := fill_good (σ := σ) (w := w) (fun i => l[i]?) (l.toArray[·]?) (fun i p hp => by simpa using hp) vs _ z zv.cells cs hl hr hv0 h10 hf
      refine ⟨.agg rc, run_build w t _ rc ?_, .agg hv h1⟩
      simp only [Program.built, hi, hu, hzv, hm, hmap]
      exact hrc
  · rename_i n e hu
    cases hie : P.info? e with
    | none => rw [hie] at hpl; cases hpl
    | some ie =>
      rw [hie] at hpl; cases hpl
      obtain ⟨rc, hrc, hv, h1⟩ := fill_good (σ := σ) (w := w) (fun j => some (j * ie.size, ie.size)) (fun j => some (j * ie.size, ie.size)) (fun i p hp => hp) vs _ z zv.cells cs hl hr hv0 h10 hf
      refine ⟨.agg rc, run_build w t _ rc ?_, .agg hv h1⟩
      simp only [Program.built, hi, hu, hzv, hie, hmap]
      exact hrc
  · cases hpl
end
end Go.AM
