/- Each operation of the abstract machine, held against the kit's: first part. -/
import Derived.Test.YtedfjabpnmjngaaDoorAM3
import Derived.Laws.IdiomCopy
set_option linter.unusedSimpArgs false
set_option linter.unusedVariables false
namespace Go.AM
open Go Go.RowKit

structure ActR (σ : Sim) (w : World) (a : AAct) (ac : Act) : Prop where
  size : a.n = ac.tmps.size
  get : ∀ t, t < a.n → Vr σ w (a.get t) (ac.tmps.getD t undef)
  defers : ac.defers = []
theorem ActR.goes {base : Nat} {σ σ' : Sim} {w w' : World} {a : AAct} {ac : Act} (h : ActR σ w a ac) (g : Goes base σ w σ' w') : ActR σ' w' a ac :=
  ⟨h.size, fun t ht => (h.get t ht).goes g, h.defers⟩
theorem undefR (σ : Sim) (w : World) : Vr σ w (.tuple []) undef := .tuple (by simpa [undef] using VrL.nil)
theorem ActR.put {σ : Sim} {w : World} {a : AAct} {ac : Act} (h : ActR σ w a ac) {v : AV} {u : Value} (hv : Vr σ w v u) (dst : Option Tmp) : ActR σ w (a.put dst v) (ac.put dst u) := by
  cases dst with
  | none => exact h
  | some d =>
    simp only [AAct.put, Act.put]
    split
    · rename_i hd
      refine ⟨by simpa using h.size, fun t ht => ?_, h.defers⟩
      by_cases htd : t = d
      · subst htd
        have hlt : t < ac.tmps.size := h.size ▸ hd
        have : (ac.tmps.setIfInBounds t u).getD t undef = u := by simp [Array.getD_eq_getD_getElem?, hlt]
        simp only [if_true]
        rw [this]; exact hv
      · have : (ac.tmps.setIfInBounds d u).getD t undef = ac.tmps.getD t undef := by
          rw [Array.getD_eq_getD_getElem?, Array.getD_eq_getD_getElem?, Array.getElem?_setIfInBounds_ne (Ne.symm htd)]
        simp only [if_neg htd]
        rw [this]; exact h.get t ht
    · rename_i hd
      refine ⟨by simpa using h.size, fun t ht => ?_, h.defers⟩
      have : (ac.tmps.setIfInBounds d u) = ac.tmps := by
        apply Array.ext
        · simp
        · intro i h1 h2
          rw [Array.getElem_setIfInBounds_ne]
          intro e; subst e; exact hd (h.size ▸ h2)
      simp only [this]; exact h.get t ht

theorem ofS0_vr {σ : Sim} {w : World} {c : Value} {v : AV} (h : ofS0 c = some v) : Vr σ w v c ∧ v.one = true := by
  unfold ofS0 at h
  split at h <;> cases h <;> refine ⟨?_, rfl⟩ <;> first | constructor | skip
  all_goals exact VrL.nil
theorem ofL_vr {σ : Sim} {w : World} : ∀ {cs : List Value} {vs : List AV}, ofL cs = some vs → VrL σ w vs cs ∧ oneL vs = true
  | [], vs, h => by simp only [ofL, Option.some.injEq] at h; subst h; exact ⟨.nil, rfl⟩
  | c :: cs, vs, h => by
    simp only [ofL] at h
    split at h
    · rename_i v us h1 h2
      cases h
      have hr := ofS0_vr (σ := σ) (w := w) h1
      have hl := ofL_vr (σ := σ) (w := w) h2
      exact ⟨.cons hr.1 hl.1, by have := hl.2; simp only [oneL] at *; simp [hr.2, this]⟩
    · cases h
theorem ofV_vr {σ : Sim} {w : World} {c : Value} {v : AV} (h : ofV c = some v) : Vr σ w v c := by
  unfold ofV at h
  split at h
  · rename_i cs
    cases hl : ofL cs.toList with
    | none => rw [hl] at h; cases h
    | some vs => rw [hl] at h; cases h; have := ofL_vr (σ := σ) (w := w) hl; exact .agg this.1 this.2
  · cases h; exact .tuple .nil
  · exact (ofS0_vr h).1

theorem toS0_eq {σ : Sim} {w : World} {x : AV} {u v : Value} (hx : Vr σ w x u) (h : toS0 x = some v) : u = v := by
  cases hx <;> simp [toS0] at h <;> exact h
theorem toL_eq {σ : Sim} {w : World} : ∀ {xs : List AV} {us vs : List Value}, VrL σ w xs us → toL xs = some vs → us = vs
  | [], _, _, .nil, h => by simp only [toL, Option.some.injEq] at h; exact h
  | x :: xs, _, _, .cons h hs, ht => by
    simp only [toL] at ht
    split at ht
    · rename_i v vs h1 h2
      cases ht
      rw [toS0_eq h h1, toL_eq hs h2]
    · cases ht
theorem toV_eq {σ : Sim} {w : World} {x : AV} {u v : Value} (hx : Vr σ w x u) (h : toV x = some v) : u = v := by
  unfold toV at h
  split at h
  · cases hx with
    | agg hl h1 =>
      rename_i cs vs
      cases ht : toL cs with
      | none => rw [ht] at h; cases h
      | some l => rw [ht] at h; cases h; have := toL_eq hl ht; rw [← this]
  · cases hx with
    | iface hv =>
      rename_i t v x
      cases ht : toS0 v with
      | none => rw [ht] at h; cases h
      | some l => rw [ht] at h; cases h; rw [toS0_eq hv ht]
  · exact toS0_eq hx h

theorem pureAt_run {α : Type} {P : Program} : ∀ (s : Sem α) {u : α}, pureAt P s = some u → ∀ w, s.run P w = .ok u w := by
  intro s
  induction s with
  | pure a => intro u h w; simp [pureAt] at h; subst h; rfl
  | program k ih => intro u h w; simp only [pureAt] at h; exact ih P h w
  | _ => intro u h; simp [pureAt] at h

theorem ActR.eval {σ : Sim} {w : World} {a : AAct} {ac : Act} (h : ActR σ w a ac) {x : Operand} {v : AV} (hx : a.eval x = some v) : Vr σ w v (ac.eval x) := by
  cases x with
  | tmp t =>
    simp only [AAct.eval, Option.some.injEq] at hx
    simp only [Act.eval]
    by_cases ht : t < a.n
    · rw [if_pos ht] at hx; subst hx; exact h.get t ht
    · rw [if_neg ht] at hx
      subst hx
      have : ac.tmps.getD t undef = undef := by
        rw [Array.getD_eq_getD_getElem?, Array.getElem?_eq_none (h.size ▸ Nat.le_of_not_lt ht)]; rfl
      rw [this]; exact undefR σ w
  | const c => exact ofV_vr hx
  | global g => cases hx
  | func f => simp only [AAct.eval, Option.some.injEq] at hx; subst hx; exact .func .nil .nil

/-- What an operation leaves in its slot. -/
def Puts (n : Next) (u : Value) : Prop := n = .value u ∨ (n = .skip ∧ u = undef)

def Good (P : Program) (E : World → Prop) (base : Nat) (σ : Sim) (w : World) (s : Sem Next) (v : AV) (H' : Heap) : Prop :=
  ∃ n u w' σ', s.run P w = .ok n w' ∧ Puts n u ∧ Vr σ' w' v u ∧ Rep E base σ' w' H' ∧ Goes base σ w σ' w'

section
variable {P : Program} {E : World → Prop} {base : Nat} {σ : Sim} {w : World} {H : Heap}

theorem Good.same (hR : Rep E base σ w H) {s : Sem Value} {u : Value} {v : AV} (hs : s.run P w = .ok u w) (hv : Vr σ w v u) :
    Good P E base σ w (do pure (.value (← s))) v H :=
  ⟨.value u, u, w, σ, by simp [hs, Result.andThen], .inl rfl, hv, hR, .refl _ _ _⟩
theorem Good.goes {w' : World} {σ' : Sim} {H' : Heap} {s : Sem Value} {u : Value} {v : AV} (hs : s.run P w = .ok u w') (hv : Vr σ' w' v u) (hR : Rep E base σ' w' H') (hg : Goes base σ w σ' w') :
    Good P E base σ w (do pure (.value (← s))) v H' :=
  ⟨.value u, u, w', σ', by simp [hs, Result.andThen], .inl rfl, hv, hR, hg⟩
theorem Good.unit {w' : World} {σ' : Sim} {H' : Heap} {s : Sem Unit} (hs : s.run P w = .ok () w') (hR : Rep E base σ' w' H') (hg : Goes base σ w σ' w') :
    Good P E base σ w (do s; pure .skip) (.tuple []) H' :=
  ⟨.skip, undef, w', σ', by simp [hs, Result.andThen], .inr ⟨rfl, rfl⟩, undefR _ _, hR, hg⟩

theorem isAgg_run {t : TypeId} {b : Bool} (h : isAgg? P t = some b) (w : World) : (isAgg t).run P w = .ok b w := by
  unfold isAgg? at h
  cases hu : P.underlying t with
  | none => rw [hu] at h; cases h
  | some d =>
    rw [hu] at h
    simp only [isAgg, Sem.run_bind, run_underlying hu, Result.andThen_ok]
    cases d <;> simp at h <;> subst h <;> rfl
theorem sizeOf_run {t : TypeId} {n : Nat} (h : sizeOf? P t = some n) (w : World) : (sizeOf t).run P w = .ok n w := by
  unfold sizeOf? at h
  cases hi : P.info? t with
  | none => rw [hi] at h; cases h
  | some i =>
    rw [hi] at h
    simp at h
    subst h
    simp only [sizeOf, typeInfo, program, Sem.run_bind, Sem.run, Result.andThen_ok, hi, Sem.run_pure]

theorem add_spot (g o j : Nat) : (⟨g, o, none⟩ : Addr).add j = ⟨g, o + j, none⟩ := by
  unfold Addr.add; split <;> simp_all

/-- A variable is read. -/
theorem takeVar_run {t : TypeId} {cs : List AV} {v : AV} (h : takeVar P t cs = some v) {g o : Nat} {vs : List Value}
    (hc : ∀ j x, vs[j]? = some x → w.cell? ⟨g, o + j, none⟩ = some x) (hv : VrL σ w cs vs) (h1 : oneL cs = true) :
    ∃ u, (loadVar t ⟨g, o, none⟩).run P w = .ok u w ∧ Vr σ w v u := by
  unfold takeVar at h
  split at h
  · rename_i n ha hs
    split at h
    · rename_i hn
      cases h
      have hl := hv.length
      have hrun := run_loadCells_list (P := P) w ⟨g, o, none⟩ (vs.take n) (fun j x hx => by
        rw [add_spot]
        rw [List.getElem?_take] at hx
        split at hx
        · exact hc j x hx
        · cases hx)
      have hlen : (vs.take n).length = n := by simp; omega
      rw [hlen] at hrun
      refine ⟨.agg (vs.take n).toArray, ?_, .agg (by simpa using hv.take n) (oneL_take h1 n)⟩
      simp only [loadVar, Sem.run_bind, isAgg_run ha, Result.andThen_ok, if_true, sizeOf_run hs, hrun]
      rfl
    · cases h
  · rename_i n ha hs
    cases hv with
    | nil => cases h
    | cons hx hxs =>
      cases h
      rename_i u us _
      refine ⟨u, ?_, hx⟩
      have h0 := hc 0 u (by simp)
      simp only [loadVar, Sem.run_bind, isAgg_run ha, Result.andThen_ok]
      simp only [Nat.add_zero] at h0
      simp [load, Sem.run, h0]
  · cases h

/-- What lies behind a pointer. -/
def Behind (w : World) (σ : Sim) (cs : List AV) (g o : Nat) : Prop :=
  ∃ vs, VrL σ w cs vs ∧ oneL cs = true ∧ ∀ j x, vs[j]? = some x → w.cell? ⟨g, o + j, none⟩ = some x
theorem takeVar_behind {t : TypeId} {cs : List AV} {v : AV} (h : takeVar P t cs = some v) {g o : Nat} (hb : Behind w σ cs g o) :
    ∃ u, (loadVar t ⟨g, o, none⟩).run P w = .ok u w ∧ Vr σ w v u := by
  obtain ⟨vs, hv, h1, hc⟩ := hb
  exact takeVar_run h hc hv h1

theorem Rep.behind (hR : Rep E base σ w H) {b off g cap : Nat} (hφ : σ.φ b = some (g, cap)) {cs : List AV} (hc : H.objs b = .cells cs ∨ ∃ e k, H.objs b = .row e k cs) :
    Behind w σ (cs.drop off) g off := by
  have hd : H.objs b ≠ .dead := by rcases hc with h | ⟨e, k, h⟩ <;> rw [h] <;> simp
  obtain ⟨g', cap', hφ', hs⟩ := hR.obj b hd
  rw [hφ] at hφ'; cases hφ'
  rcases hc with h | ⟨e, k, h⟩
  · rw [h] at hs
    obtain ⟨_, cur, ty, hh, hv, h1, _⟩ := hs
    refine ⟨cur.toList.drop off, hv.drop off, oneL_drop h1 off, fun j x hx => ?_⟩
    rw [cell_of_row w g _ cur ty (0, 0) hh]
    simpa using hx
  · rw [h] at hs
    obtain ⟨_, _, cur, n, hh, _, _, _, hv, h1, _⟩ := hs
    refine ⟨(cur.toList.take cs.length).drop off, hv.drop off, oneL_drop h1 off, fun j x hx => ?_⟩
    rw [cell_of_row w g _ cur _ (0, 0) hh]
    rw [List.getElem?_drop, List.getElem?_take] at hx
    split at hx
    · simpa using hx
    · cases hx

theorem load_good (hR : Rep E base σ w H) {t : TypeId} {p : AV} {pu : Value} (hp : Vr σ w p pu) {v : AV} (h : loadA P t H p = some v) :
    ∃ u, (Instr.loadAt t pu).run P w = .ok u w ∧ Vr σ w v u := by
  cases hp <;> try (cases h; done)
  · rename_i b off g cap hφ
    have : ∃ cs, (H.objs b = .cells cs ∨ ∃ e k, H.objs b = .row e k cs) ∧ takeVar P t (cs.drop off) = some v := by
      cases hc : H.objs b <;> simp only [loadA, hc, cellsOfObj] at h <;> try (cases h; done)
      · exact ⟨_, .inl rfl, h⟩
      · exact ⟨_, .inr ⟨_, _, rfl⟩, h⟩
    obtain ⟨cs, hc, ht⟩ := this
    obtain ⟨u, hu, hv⟩ := takeVar_behind ht (hR.behind (off := off) hφ hc)
    exact ⟨u, by simpa [Instr.loadAt, Instr.sureAddr] using hu, hv⟩
  · rename_i cs g o vs hlies hv h1
    simp only [loadA] at h
    obtain ⟨u, hu, hv⟩ := takeVar_run h (fun j x hx => (hlies j x hx).1) hv h1
    exact ⟨u, by simpa [Instr.loadAt, Instr.sureAddr] using hu, hv⟩

theorem VrL.splice {xs ys : List AV} {vs us : List Value} (h : VrL σ w xs vs) (k : VrL σ w ys us) (off : Nat) : VrL σ w (setAt xs off ys) (vs.take off ++ us ++ vs.drop (off + us.length)) := by
  unfold setAt
  rw [k.length]
  exact ((h.take off).append k).append (h.drop _)
theorem oneL_splice {xs ys : List AV} (h : oneL xs = true) (k : oneL ys = true) (off : Nat) : oneL (setAt xs off ys) = true :=
  oneL_append (oneL_append (oneL_take h _) k) (oneL_drop h _)
theorem setAt_length {xs ys : List AV} {off : Nat} (h : off + ys.length ≤ xs.length) : (setAt xs off ys).length = xs.length := by
  simp [setAt]; omega

theorem storeVar_run {t : TypeId} {u : Value} {us : List Value} (hus : u.cells.toList = us) (hsz : sizeOf? P t = some us.length) {g o : Nat} {cur : Array Value} {ty : TypeId}
    (hh : w.heap[g]? = some (.cells cur ty (0, 0))) (hfit : o + us.length ≤ cur.size) (h1 : ∀ v ∈ us, v.oneCell' = true) :
    (storeVar t ⟨g, o, none⟩ u).run P w = .ok () (w.setRow g (cur.toList.take o ++ us ++ cur.toList.drop (o + us.length)).toArray) := by
  have hl : u.cells.size = us.length := by rw [← hus]; simp
  have := run_storeCells_at P g o ty us 0 cur w hh (by simpa using hfit) h1
  simp only [storeVar, Sem.run_bind, sizeOf_run hsz, Result.andThen_ok, hl, ne_eq, not_true_eq_false, if_false, hus]
  simpa using this

theorem grownBy_setRow (w : World) (g : Nat) (cs : Array Value) : w.grownBy (w.setRow g cs) (some g) :=
  ⟨rfl, rfl, rfl, by simp [World.setRow], fun k _ hk => setRow_other w g k _ (fun e => hk (by rw [e]))⟩

/-- A store. -/
theorem store_good (hE : ∀ w w', E w → Below base w w' → E w') (hR : Rep E base σ w H) {t : TypeId} {p y : AV} {pu u : Value} (hp : Vr σ w p pu) (hy : Vr σ w y u) {H' : Heap} (h : storeA P t H p y = some H') :
    ∃ w' σ', (Instr.storeAt t pu u).run P w = .ok () w' ∧ Rep E base σ' w' H' ∧ Goes base σ w σ' w' := by
  unfold storeA at h
  split at h
  case h_2 => cases h
  rename_i b off vs hf
  cases hp
  rename_i g cap hφ
  split at h
  case isFalse => cases h
  rename_i hsz
  obtain ⟨hvs, h1⟩ := hy.flat hf
  have hlen := hvs.length
  have hone := hvs.one h1
  have hd : H.objs b ≠ .dead := by intro e; rw [e] at h; cases h
  obtain ⟨g', cap', hφ', hs⟩ := hR.obj b hd
  rw [hφ] at hφ'; cases hφ'
  cases hc : H.objs b with
  | cells cs =>
    rw [hc] at h hs
    simp only at h
    split at h
    · rename_i hfit
      cases h
      obtain ⟨hb, cur, ty, hh, hv, h1c, hG⟩ := hs
      have hcl := hv.length
      have hrun := storeVar_run (P := P) (w := w) (t := t) (u := u) (us := u.cells.toList) rfl (by rw [← hlen]; exact hsz.symm) (g := g) (o := off) hh (by simp at hcl ⊢; simp at hlen; omega) hone
      have hw := hR.write hE hd hφ hb (grownBy_setRow w g (cur.toList.take off ++ u.cells.toList ++ cur.toList.drop (off + u.cells.toList.length)).toArray) hG (.cells (setAt cs off vs))
        (fun hk => ⟨hb, _, ty, setRow_heap w g cur _ ty _ hh, by simpa using ((hv.mono (.refl σ) hk).splice (hvs.mono (.refl σ) hk) off), oneL_splice h1c h1 off, hG⟩)
      exact ⟨_, σ, by simpa [Instr.storeAt, Instr.sureAddr] using hrun, hw.1, hw.2⟩
    · cases h
  | row e k cs =>
    rw [hc] at h hs
    simp only at h
    split at h
    · rename_i hfit
      cases h
      obtain ⟨hb, hm, cur, n, hh, hsz', hcn, hnc, hv, h1c, hG⟩ := hs
      have hcl := hv.length
      have hle : cs.length ≤ cur.size := by rw [hcn, hsz']; exact Nat.mul_le_mul_right _ hnc
      have hrun := storeVar_run (P := P) (w := w) (t := t) (u := u) (us := u.cells.toList) rfl (by rw [← hlen]; exact hsz.symm) (g := g) (o := off) hh (by simp at hlen ⊢; omega) hone
      have hw := hR.write hE hd hφ hb (grownBy_setRow w g (cur.toList.take off ++ u.cells.toList ++ cur.toList.drop (off + u.cells.toList.length)).toArray) hG (.row e k (setAt cs off vs))
        (fun hk => by
          refine ⟨hb, hm, _, n, setRow_heap w g cur _ e _ hh, ?_, ?_, hnc, ?_, oneL_splice h1c h1 off, hG⟩
          · simp at hlen ⊢; omega
          · rw [setAt_length hfit]; exact hcn
          · rw [setAt_length hfit]
            have hsp := (hv.mono (.refl σ) hk).splice (hvs.mono (.refl σ) hk) off
            have : (cur.toList.take off ++ u.cells.toList ++ cur.toList.drop (off + u.cells.toList.length)).take cs.length = (cur.toList.take cs.length).take off ++ u.cells.toList ++ (cur.toList.take cs.length).drop (off + u.cells.toList.length) := by
              rw [hlen] at hfit
              rw [List.take_append, List.take_append, List.take_take, List.take_of_length_le (l := u.cells.toList) (by simp at hfit ⊢; omega)]
              congr 1
              · congr 1
                rw [Nat.min_comm]
                rw [List.take_take]
              · rw [List.drop_take]
                congr 1
                simp at hle hfit ⊢
                omega
            rw [this]; exact hsp)
      exact ⟨_, σ, by simpa [Instr.storeAt, Instr.sureAddr] using hrun, hw.1, hw.2⟩
    · cases h
  | dead => rw [hc] at h; cases h
  | map es => rw [hc] at h; cases h
  | iter s p => rw [hc] at h; cases h
end
end Go.AM
