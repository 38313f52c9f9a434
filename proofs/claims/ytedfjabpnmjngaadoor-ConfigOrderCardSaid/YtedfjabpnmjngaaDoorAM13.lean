/- Each operation of the abstract machine, held against the kit's: the theorem. -/
import Derived.Test.YtedfjabpnmjngaaDoorAM12
set_option linter.unusedSimpArgs false
set_option linter.unusedVariables false
namespace Go.AM
open Go Go.RowKit

section
variable {P : Program} {E : World → Prop} {base : Nat} {σ : Sim} {w : World} {H : Heap}

theorem newMap_good (hE : ∀ w w', E w → Below base w w' → E w') (hR : Rep E base σ w H) {t : TypeId} : ∃ r w' σ', (Instr.makeMap t none).run P w = .ok r w' ∧ Vr σ' w' (.map H.next) r ∧ Rep E base σ' w' (H.new (.map [])) ∧ Goes base σ w σ' w' := by
  obtain ⟨hr, hg⟩ := hR.allocObj hE (grownBy_alloc w (.map #[] 0)) (Nat.le_refl _) (by rw [size_alloc]; omega) (.map []) 0
    (fun _ hgo hG => ⟨hR.baseLe, #[], 0, heap_alloc_new w _, .nil⟩)
  exact ⟨.map (some w.heap.size), _, _, by simp [Instr.makeMap, newObj, Sem.run], .map (cap := 0) (by simp [Sim.newObj]), hr, hg⟩

theorem range_good (hE : ∀ w w', E w → Below base w w' → E w') (hR : Rep E base σ w H) {t : TypeId} {s : ByteArray} (ht : P.underlying t = some .string) :
    ∃ r w' σ', (Instr.range t (.string s)).run P w = .ok r w' ∧ Vr σ' w' (.iter H.next) r ∧ Rep E base σ' w' (H.new (.iter s 0)) ∧ Goes base σ w σ' w' := by
  obtain ⟨hr, hg⟩ := hR.allocObj hE (grownBy_alloc w (.stringIter s 0)) (Nat.le_refl _) (by rw [size_alloc]; omega) (.iter s 0) 0
    (fun _ hgo hG => ⟨hR.baseLe, heap_alloc_new w _⟩)
  refine ⟨.pointer (some ⟨w.heap.size, 0, none⟩), _, _, ?_, .iter (by simp [Sim.newObj]; rfl), hr, hg⟩
  simp only [Instr.range, Sem.run_bind, run_underlying ht, Result.andThen_ok]
  rfl

theorem next_good (hE : ∀ w w', E w → Below base w w' → E w') (hR : Rep E base σ w H) {ty : TypeId} {x : AV} {u : Value} (hx : Vr σ w x u) {v : AV} {H' : Heap} (h : nextA x H = some (v, H')) :
    ∃ r w' σ', (Instr.next u true ty).run P w = .ok r w' ∧ Vr σ' w' v r ∧ Rep E base σ' w' H' ∧ Goes base σ w σ' w' := by
  unfold nextA at h
  split at h
  case h_2 => cases h
  rename_i b
  cases hb : H.objs b <;> rw [hb] at h <;> try (cases h; done)
  rename_i s pos
  simp only at h
  cases hx
  rename_i g cap hφ
  have hdd : H.objs b ≠ .dead := by rw [hb]; simp
  obtain ⟨g', cap', hφ', hst⟩ := hR.obj b hdd
  rw [hφ] at hφ'; cases hφ'
  rw [hb] at hst
  obtain ⟨hbg, hh⟩ := hst
  have hget : (getObj g).run P w = .ok (.stringIter s pos) w := by simp [getObj, Sem.run, hh]
  split at h
  · rename_i hlt
    simp only [Option.some.injEq, Prod.mk.injEq] at h
    obtain ⟨rfl, rfl⟩ := h
    have hset : (setObj g (.stringIter s (pos + (Utf8.decode s pos).2))).run P w = .ok () (World.setMap w g (.stringIter s (pos + (Utf8.decode s pos).2))) := by simp [setObj, Sem.run, hh, World.setMap]
    have hw := hR.writeObj hE hdd hφ hbg (o := .stringIter s pos) (o' := .stringIter s (pos + (Utf8.decode s pos).2)) hh (by simp) (.iter s (pos + (Utf8.decode s pos).2)) (fun _ => ⟨hbg, setMap_at hh⟩)
    refine ⟨.tuple #[.bool true, .int .i64 pos, .int .i32 (Utf8.decode s pos).1], _, σ, ?_, .tuple (.cons (.bool _) (.cons (.int _ _) (.cons (.int _ _) .nil))), hw.1, hw.2⟩
    simp [Instr.next, hget, hlt, hset, goInt]
  · rename_i hlt
    simp only [Option.some.injEq, Prod.mk.injEq] at h
    obtain ⟨rfl, rfl⟩ := h
    refine ⟨.tuple #[.bool false], w, σ, ?_, .tuple (.cons (.bool _) .nil), hR, .refl _ _ _⟩
    simp [Instr.next, hget, hlt]

theorem builtin_good (hE : ∀ w w', E w → Below base w w' → E w') (hR : Rep E base σ w H) {hk : Bool} {b : Builtin} {ts : Array TypeId} {ty : TypeId} {cs : Array Bool} {vs : List AV} {us : Array Value} (hvs : VrL σ w vs us.toList) {v : AV} {H' : Heap} (h : builtinA P hk b ts.toList ty vs H = some (v, H')) :
    ∃ r w' σ', (Go.builtin b ts ty cs us).run P w = .ok (.value r) w' ∧ Vr σ' w' v r ∧ Rep E base σ' w' H' ∧ Goes base σ w σ' w' := by
  have two : ∀ {x y : AV}, vs = [x, y] → ∃ xu yu, us = #[xu, yu] ∧ Vr σ w x xu ∧ Vr σ w y yu := by
    intro x y e; subst e
    generalize hus : us.toList = ul at hvs
    cases hvs with
    | cons h1 h2 => cases h2 with
      | cons h3 h4 => cases h4; exact ⟨_, _, by rw [← Array.toList_inj, hus], h1, h3⟩
  have one : ∀ {x : AV}, vs = [x] → ∃ xu, us = #[xu] ∧ Vr σ w x xu := by
    intro x e; subst e
    generalize hus : us.toList = ul at hvs
    cases hvs with
    | cons h1 h2 => cases h2; exact ⟨_, by rw [← Array.toList_inj, hus], h1⟩
  have ts2 : ∀ {x y : TypeId}, ts.toList = [x, y] → ts = #[x, y] := fun e => by rw [← Array.toList_inj, e]
  have ts1 : ∀ {x : TypeId}, ts.toList = [x] → ts = #[x] := fun e => by rw [← Array.toList_inj, e]
  generalize hts : ts.toList = tl at h
  unfold builtinA at h
  split at h
  · rename_i s x t t'
    obtain ⟨su, xu, rfl, hs, hx⟩ := two rfl
    have := ts2 hts; subst this
    obtain ⟨r, w', σ', h1, h2, h3, h4⟩ := append_good hE hR hs hx (ty := ty) h
    exact ⟨r, w', σ', by simp [Go.builtin, h1], h2, h3, h4⟩
  · rename_i x t
    obtain ⟨xu, rfl, hx⟩ := one rfl
    have := ts1 hts; subst this
    cases hl : lenA P t x H with
    | none => rw [hl] at h; cases h
    | some l =>
      rw [hl] at h; cases h
      obtain ⟨r, h1, h2⟩ := len_good hR hx (ty := ty) hl
      exact ⟨r, w, σ, by simp [Go.builtin, h1], h2, hR, .refl _ _ _⟩
  · rename_i vs' ts'
    cases hv : toVs vs with
    | none => rw [hv] at h; cases h
    | some xs =>
      rw [hv] at h
      have := toVs_eq hvs hv
      subst this
      simp only [Array.toArray_toList] at h
      rw [← hts, Array.toArray_toList] at h
      cases hp : pureAt P (Builtin.max_ ts ty us) with
      | none => rw [hp] at h; cases h
      | some r =>
        rw [hp] at h
        simp only [Option.bind_some] at h
        cases ho : ofV r with
        | none => rw [ho] at h; cases h
        | some rv => rw [ho] at h; cases h; exact ⟨r, w, σ, by simp [Go.builtin, pureAt_run _ hp w], ofV_vr ho, hR, .refl _ _ _⟩
  · rename_i vs' ts'
    cases hv : toVs vs with
    | none => rw [hv] at h; cases h
    | some xs =>
      rw [hv] at h
      have := toVs_eq hvs hv
      subst this
      simp only [Array.toArray_toList] at h
      rw [← hts, Array.toArray_toList] at h
      cases hp : pureAt P (Builtin.min_ ts ty us) with
      | none => rw [hp] at h; cases h
      | some r =>
        rw [hp] at h
        simp only [Option.bind_some] at h
        cases ho : ofV r with
        | none => rw [ho] at h; cases h
        | some rv => rw [ho] at h; cases h; exact ⟨r, w, σ, by simp [Go.builtin, pureAt_run _ hp w], ofV_vr ho, hR, .refl _ _ _⟩
  · rename_i d x t t'
    obtain ⟨du, xu, rfl, hd, hx⟩ := two rfl
    have := ts2 hts; subst this
    obtain ⟨r, w', σ', h1, h2, h3, h4⟩ := copy_good hE hR hd hx (t' := t') (ty := ty) h
    exact ⟨r, w', σ', by simp [Go.builtin, h1], h2, h3, h4⟩
  · cases h

theorem opt_good {a : AAct} {ac : Act} (ha : ActR σ w a ac) {o : Option Operand} {r : Option AV} (h : optA a o = some r) : OptR σ w r (o.map ac.eval) := by
  cases o with
  | none => simp only [optA, Option.some.injEq] at h; subst h; trivial
  | some x =>
    simp only [optA] at h
    cases he : a.eval x with
    | none => rw [he] at h; cases h
    | some v => rw [he] at h; cases h; exact ha.eval he

theorem ex_map {α β γ : Type} {o : Option α} {f : α → β} {c : γ} {p : β × γ} (h : o.map (fun x => (f x, c)) = some p) : ∃ x, o = some x ∧ p = (f x, c) := by
  cases o with
  | none => cases h
  | some x => exact ⟨x, rfl, by simpa using h.symm⟩
theorem ex_bind {α β : Type} {o : Option α} {f : α → Option β} {p : β} (h : o.bind f = some p) : ∃ x, o = some x ∧ f x = some p := by
  cases o with
  | none => cases h
  | some x => exact ⟨x, rfl, h⟩

set_option maxHeartbeats 1000000 in
theorem opA_good (hE : ∀ w w', E w → Below base w w' → E w') (hR : Rep E base σ w H) {h : Hints} {f : FuncId} {a : AAct} {ac : Act} (ha : ActR σ w a ac) {o : Oper} {v : AV} {H' : Heap} (hop : opA P h f a o H = some (v, H')) :
    Good P E base σ w (execOp ac.eval o) v H' := by
  unfold opA at hop
  cases ho : o.op <;> rw [ho] at hop <;> simp only at hop <;> (try (cases hop; done))
  case move x =>
    obtain ⟨xv, hx, hm⟩ := ex_bind hop
    have hr := ha.eval hx
    unfold moveA at hm
    split at hm
    · split at hm
      · split at hm
        · split at hm
          · rename_i k off n _ _ e k' cs hb hc
            obtain ⟨rfl, rfl, hn⟩ := hc
            cases hm
            obtain ⟨σ', h1, h2, h3⟩ := freeze_good hR hr hb hn
            exact ⟨_, _, w, σ', by simp [execOp, ho], .inl rfl, h3, h1, h2⟩
          · cases hm
        · cases hm
      · cases hm; exact ⟨_, _, w, σ, by simp [execOp, ho], .inl rfl, hr, hR, .refl _ _ _⟩
    · cases hm; exact ⟨_, _, w, σ, by simp [execOp, ho], .inl rfl, hr, hR, .refl _ _ _⟩
  case assign x =>
    obtain ⟨xv, hx, hm⟩ := ex_bind hop
    have hr := ha.eval hx
    unfold moveA at hm
    split at hm
    · split at hm
      · split at hm
        · split at hm
          · rename_i k off n _ _ e k' cs hb hc
            obtain ⟨rfl, rfl, hn⟩ := hc
            cases hm
            obtain ⟨σ', h1, h2, h3⟩ := freeze_good hR hr hb hn
            exact ⟨_, _, w, σ', by simp [execOp, ho], .inl rfl, h3, h1, h2⟩
          · cases hm
        · cases hm
      · cases hm; exact ⟨_, _, w, σ, by simp [execOp, ho], .inl rfl, hr, hR, .refl _ _ _⟩
    · cases hm; exact ⟨_, _, w, σ, by simp [execOp, ho], .inl rfl, hr, hR, .refl _ _ _⟩
  case pick c x y =>
    obtain ⟨cv, hc, hm⟩ := ex_bind hop
    obtain ⟨r, hp, he⟩ := ex_map hm
    cases he
    obtain ⟨u, h1, h2⟩ := pick_good (P := P) (ha.eval hc) (xu := ac.eval x) (yu := ac.eval y) (fun v hv => ha.eval hv) (fun v hv => ha.eval hv) hp
    have : execOp ac.eval o = (do pure (.value (← (do pure (if ← asBool (ac.eval c) then ac.eval x else ac.eval y) : Sem Value))) : Sem Next) := by simp [execOp, ho]
    rw [this]
    exact Good.same hR h1 h2
  case alloc t =>
    obtain ⟨z, hz, he⟩ : ∃ z, zeroOf P t = some z ∧ (v, H') = (.ptr H.next 0, H.new (.cells z)) := by
      cases hz : zeroOf P t with
      | none => rw [hz] at hop; cases hop
      | some z => rw [hz] at hop; exact ⟨z, rfl, by simpa using hop.symm⟩
    cases he
    obtain ⟨w', σ', h1, h2, h3, h4⟩ := alloc_good hE hR hz
    simp only [execOp, ho]
    exact Good.goes h1 h4 h2 h3
  case box t x =>
    obtain ⟨z, hz, he⟩ : ∃ z, (a.eval x).bind AV.flat = some z ∧ (v, H') = (.ptr H.next 0, H.new (.cells z)) := by
      cases hz : (a.eval x).bind AV.flat with
      | none => rw [hz] at hop; cases hop
      | some z => rw [hz] at hop; exact ⟨z, rfl, by simpa using hop.symm⟩
    cases he
    obtain ⟨xv, hx, hf⟩ := ex_bind hz
    obtain ⟨w', σ', h1, h2, h3, h4⟩ := box_good hE hR (P := P) (t := t) (ha.eval hx) hf
    simp only [execOp, ho]
    exact Good.goes h1 h4 h2 h3
  case build t parts =>
    obtain ⟨vs, hvs, hm⟩ := ex_bind hop
    obtain ⟨r, hb, he⟩ := ex_map hm
    cases he
    obtain ⟨u, h1, h2⟩ := build_good ha hvs hb
    simp only [execOp, ho]
    exact Good.same hR h1 h2
  case buildSlice t len parts =>
    obtain ⟨vs, hvs, hm⟩ := ex_bind hop
    obtain ⟨u, w', σ', h1, h2, h3, h4⟩ := buildSlice_good hE hR ha hvs hm
    simp only [execOp, ho]
    exact Good.goes h1 h2 h3 h4
  case load t x =>
    obtain ⟨xv, hx, hm⟩ := ex_bind hop
    obtain ⟨r, hb, he⟩ := ex_map hm
    cases he
    obtain ⟨u, h1, h2⟩ := load_good hR (ha.eval hx) hb
    simp only [execOp, ho]
    exact Good.same hR h1 h2
  case store t x y =>
    obtain ⟨xv, hx, hm⟩ := ex_bind hop
    obtain ⟨yv, hy, hm⟩ := ex_bind hm
    cases hs : storeA P t H xv yv with
    | none => rw [hs] at hm; cases hm
    | some H2 =>
      rw [hs] at hm; cases hm
      obtain ⟨w', σ', h1, h2, h3⟩ := store_good hE hR (ha.eval hx) (ha.eval hy) hs
      simp only [execOp, ho]
      exact Good.unit h1 h2 h3
  case nilCheck x =>
    obtain ⟨xv, hx, hm⟩ := ex_bind hop
    obtain ⟨r, hb, he⟩ := ex_map hm
    cases he
    have hr := ha.eval hx
    obtain ⟨rfl, p, hp⟩ := nilCheck_spec hb hr
    exact ⟨.value (ac.eval x), ac.eval x, w, σ, by simp only [execOp, ho, hp]; rfl, .inl rfl, hr, hR, .refl _ _ _⟩
  case binOp op t x y yt =>
    obtain ⟨xv, hx, hm⟩ := ex_bind hop
    obtain ⟨yv, hy, hm⟩ := ex_bind hm
    obtain ⟨r, hb, he⟩ := ex_map hm
    cases he
    obtain ⟨u, h1, h2⟩ := binOp_good (ha.eval hx) (ha.eval hy) hb
    simp only [execOp, ho]
    exact Good.same hR h1 h2
  case unOp op t x =>
    obtain ⟨xv, hx, hm⟩ := ex_bind hop
    obtain ⟨r, hb, he⟩ := ex_map hm
    cases he
    unfold unOpA at hb
    cases hv : toV xv with
    | none => rw [hv] at hb; cases hb
    | some u =>
      rw [hv] at hb
      have := toV_eq (ha.eval hx) hv
      obtain ⟨s, hs, hs2⟩ := ex_bind hb
      simp only [execOp, ho]
      exact Good.same hR (by rw [this]; exact pureAt_run _ hs w) (ofV_vr hs2)
  case convert src dst x =>
    obtain ⟨xv, hx, hm⟩ := ex_bind hop
    obtain ⟨r, hb, he⟩ := ex_map hm
    cases he
    obtain ⟨u, w', σ', h1, h2, h3, h4⟩ := convert_good hE hR (ha.eval hx) hb
    simp only [execOp, ho]
    exact Good.goes h1 h2 h3 h4
  case makeInterface t x =>
    obtain ⟨xv, hx, hm⟩ := ex_bind hop
    obtain ⟨r, hb, he⟩ := ex_map hm
    cases he
    obtain ⟨u, h1, h2⟩ := makeInterface_good (ha.eval hx) hb
    simp only [execOp, ho]
    exact Good.same hR h1 h2
  case makeFunc fn first captured =>
    cases fn <;> simp only at hop <;> (try (cases hop; done))
    obtain ⟨fs, hf, hm⟩ := ex_bind hop
    obtain ⟨cs, hc, he⟩ := ex_map (f := fun cs => AV.func _ fs cs) hm
    cases he
    have h1 := args_good ha _ _ hf
    have h2 := args_good ha _ _ hc
    simp only [execOp, ho]
    exact Good.same hR (u := .func (.func _) (first.map ac.eval) (captured.map ac.eval)) rfl (.func (by simpa using h1) (by simpa using h2))
  case makeMap t r =>
    cases r <;> simp only at hop <;> (try (cases hop; done))
    cases hop
    obtain ⟨u, w', σ', h1, h2, h3, h4⟩ := newMap_good (P := P) hE hR (t := t)
    simp only [execOp, ho]
    exact Good.goes h1 h2 h3 h4
  case makeSlice t l c =>
    obtain ⟨lv, hl, hm⟩ := ex_bind hop
    obtain ⟨cv, hc, hm⟩ := ex_bind hm
    obtain ⟨u, w', σ', h1, h2, h3, h4⟩ := makeSlice_good hE hR (ha.eval hl) (ha.eval hc) hm
    simp only [execOp, ho]
    exact Good.goes h1 h2 h3 h4
  case slice t x lo hi mx =>
    obtain ⟨xv, hx, hm⟩ := ex_bind hop
    obtain ⟨lv, hl, hm⟩ := ex_bind hm
    obtain ⟨hv, hh, hm⟩ := ex_bind hm
    obtain ⟨mv, hmx, hm⟩ := ex_bind hm
    obtain ⟨r, hb, he⟩ := ex_map hm
    cases he
    obtain ⟨u, h1, h2⟩ := slice_good (ha.eval hx) (opt_good ha hl) (opt_good ha hh) (opt_good ha hmx) hb
    simp only [execOp, ho]
    exact Good.same hR h1 h2
  case fieldAddr s x fi =>
    obtain ⟨xv, hx, hm⟩ := ex_bind hop
    obtain ⟨r, hb, he⟩ := ex_map hm
    cases he
    obtain ⟨u, h1, h2⟩ := fieldAddr_good (ha.eval hx) hb
    simp only [execOp, ho]
    exact Good.same hR h1 h2
  case field s x fi =>
    obtain ⟨xv, hx, hm⟩ := ex_bind hop
    obtain ⟨r, hb, he⟩ := ex_map hm
    cases he
    obtain ⟨u, h1, h2⟩ := field_good (ha.eval hx) hb
    simp only [execOp, ho]
    exact Good.same hR h1 h2
  case indexAddr t x ix =>
    obtain ⟨xv, hx, hm⟩ := ex_bind hop
    obtain ⟨iv, hi, hm⟩ := ex_bind hm
    obtain ⟨i, hn, hm⟩ := ex_bind hm
    obtain ⟨r, hb, he⟩ := ex_map hm
    cases he
    obtain ⟨u, h1, h2⟩ := indexAddr_good (ha.eval hx) (ha.eval hi) hn hb
    simp only [execOp, ho]
    exact Good.same hR h1 h2
  case index t x ix =>
    obtain ⟨xv, hx, hm⟩ := ex_bind hop
    obtain ⟨iv, hi, hm⟩ := ex_bind hm
    obtain ⟨i, hn, hm⟩ := ex_bind hm
    obtain ⟨r, hb, he⟩ := ex_map hm
    cases he
    obtain ⟨u, h1, h2⟩ := index_good (ha.eval hx) (ha.eval hi) hn hb
    simp only [execOp, ho]
    exact Good.same hR h1 h2
  case lookup t x ix ok =>
    obtain ⟨xv, hx, hm⟩ := ex_bind hop
    obtain ⟨iv, hi, hm⟩ := ex_bind hm
    obtain ⟨r, hb, he⟩ := ex_map hm
    cases he
    obtain ⟨u, h1, h2⟩ := lookup_good hR (ha.eval hx) (ha.eval hi) hb
    simp only [execOp, ho]
    exact Good.same hR h1 h2
  case mapUpdate t m k x =>
    obtain ⟨mv, hmv, hm⟩ := ex_bind hop
    obtain ⟨kv, hkv, hm⟩ := ex_bind hm
    obtain ⟨xv, hxv, hm⟩ := ex_bind hm
    cases hs : mapUpdateA P t mv kv xv H with
    | none => rw [hs] at hm; cases hm
    | some H2 =>
      rw [hs] at hm; cases hm
      obtain ⟨w', σ', h1, h2, h3⟩ := mapUpdate_good hE hR (ha.eval hmv) (ha.eval hkv) (ha.eval hxv) hs
      simp only [execOp, ho]
      exact Good.unit h1 h2 h3
  case range t x =>
    obtain ⟨xv, hx, hm⟩ := ex_bind hop
    have hr := ha.eval hx
    split at hm
    · rename_i s ht
      cases hm
      generalize hu : ac.eval x = u at hr
      cases hr
      obtain ⟨u, w', σ', h1, h2, h3, h4⟩ := range_good (P := P) hE hR (t := t) (s := s) ht
      simp only [execOp, ho, hu]
      exact Good.goes h1 h2 h3 h4
    · cases hm
  case next it isString =>
    cases isString <;> simp only at hop <;> (try (cases hop; done))
    obtain ⟨xv, hx, hm⟩ := ex_bind hop
    obtain ⟨u, w', σ', h1, h2, h3, h4⟩ := next_good (P := P) hE hR (ty := o.type) (ha.eval hx) hm
    simp only [execOp, ho]
    exact Good.goes h1 h2 h3 h4
  case typeAssert x xt asserted ok =>
    obtain ⟨xv, hx, hm⟩ := ex_bind hop
    obtain ⟨r, hb, he⟩ := ex_map hm
    cases he
    obtain ⟨u, h1, h2⟩ := typeAssert_good (xt := xt) (ha.eval hx) hb
    simp only [execOp, ho]
    exact Good.same hR h1 h2
  case extract t ix =>
    obtain ⟨xv, hx, hm⟩ := ex_bind hop
    have hr := ha.eval hx
    split at hm
    · rename_i vs
      obtain ⟨r, hb, he⟩ := ex_map hm
      cases he
      obtain ⟨u, h1, h2⟩ := extract_good (P := P) hr hb
      simp only [execOp, ho]
      exact Good.same hR h1 h2
    · cases hm
  case call c =>
    obtain ⟨callee, args, argTypes⟩ := c
    cases callee <;> simp only at hop <;> (try (cases hop; done))
    rename_i b
    obtain ⟨vs, hvs, hm⟩ := ex_bind hop
    have h1 := args_good ha _ _ hvs
    obtain ⟨r, w', σ', h2, h3, h4, h5⟩ := builtin_good (P := P) hE hR (us := args.map ac.eval) (cs := args.map fun | .const _ => true | _ => false) (by simpa using h1) hm
    refine ⟨.value r, r, w', σ', ?_, .inl rfl, h3, h4, h5⟩
    simp only [execOp, ho, resolve, Sem.run_bind, Sem.run_pure, Result.andThen_ok, Go.invoke]
    exact h2
end
end Go.AM
