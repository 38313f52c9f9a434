/- Rows that come as nil or as a slice; texts as lists of bytes; what a drawn region's reads meet, a read at a time. -/
import Derived.Test.YtedfjabpnmjngaaDoorAM24
import Derived.Test.YtedfjabpnmjngaaDoorAM25
import Derived.Test.YtedfjabpnmjngaaDoorAM26
set_option linter.unusedSimpArgs false
set_option linter.unusedVariables false
namespace Go.AM
open Go

/- TEXTS -/
def tx (l : List UInt8) : ByteArray := ⟨l.toArray⟩
theorem tx_data (l : List UInt8) : (tx l).data.toList = l := rfl
theorem tx_size (l : List UInt8) : (tx l).size = l.length := rfl
theorem tx_of (s : ByteArray) : tx s.data.toList = s := rfl
theorem tx_append (a b : List UInt8) : tx a ++ tx b = tx (a ++ b) := by
  apply ByteArray.ext
  show (tx a ++ tx b).data = (tx (a ++ b)).data
  rw [ByteArray.data_append]
  simp [tx]
theorem byte_eq {a b : ByteArray} (h : a.data.toList = b.data.toList) : a = b := by
  rw [← tx_of a, ← tx_of b, h]

/- ROWS OF ONE CELL AN ELEMENT -/
def Row1 {α : Type} (av : α → AV) (v : AV) (l : List α) : Prop := (v = .nilSlice ∧ l = []) ∨ ∃ r, v = .slice r 1 (l.map av) l.length
section
variable {P : Program} {α : Type} {av : α → AV} {v : AV} {l : List α} {t e : TypeId}
theorem Row1.len (h : Row1 av v l) (ht : P.underlying t = some (.slice e)) (H : Heap) : lenA P t v H = some (.int .i64 l.length) := by
  rcases h with ⟨rfl, rfl⟩ | ⟨r, rfl⟩
  · exact lenA_nil ht H
  · exact lenA_slice ht _ _ _ _ H
theorem Row1.at (h : Row1 av v l) (ht : P.underlying t = some (.slice e)) (hk : sizeOf? P e = some 1) (ha : isAgg? P e = some false) {i : Nat} {x : α} (hi : l[i]? = some x) :
    ∃ cs, indexAddrA P t v i = some (.rptr cs) ∧ takeVar P e cs = some (av x) := by
  have hlt : i < l.length := (List.getElem?_eq_some_iff.mp hi).1
  rcases h with ⟨rfl, rfl⟩ | ⟨r, rfl⟩
  · cases hi
  · refine ⟨(l.map av).drop (i * 1), indexAddrA_slice ht hk r _ _ i hlt, ?_⟩
    rw [takeVar_one ha hk, Nat.mul_one]
    exact head_drop (by rw [List.getElem?_map, hi]; rfl)
end

/- READS OF A DRAWN REGION -/
section
variable {n : Nat} {ops : Array Oper} {tr : List (Regs × Heap)} {H1 : Heap}
theorem meets_each {ps : List (Nat × Nat)} (is : List Nat) (hps : ps.all (fun p => is.contains p.1 && decide (p.2 < tr.length + 1)) = true) (h : ∀ i ∈ is, ∀ j, j < tr.length + 1 → meet1 n ops tr H1 (i, j)) :
    ∀ p ∈ ps, meet1 n ops tr H1 p := by
  intro p hp
  have h1 := List.all_eq_true.mp hps p hp
  simp only [Bool.and_eq_true, decide_eq_true_eq, List.contains_iff_mem] at h1
  exact h p.1 h1.1 p.2 h1.2
theorem meet_any_rptr {i : Nat} {H : Heap} {g : Regs} {d : Option Tmp} {t : TypeId} {x : Operand} {ty : TypeId} {ps : String} {af : Array Edge} {gd : Option (Nat × Bool)} {cs : List AV}
    (h1 : tr[i]? = some (g, H)) (h2 : ops[i]? = some ⟨d, .load t x, ty, ps, af, gd⟩) (h3 : ev n g x = some (.rptr cs)) : ∀ j, j < tr.length + 1 → meet1 n ops tr H1 (i, j) := by
  intro j hj
  obtain ⟨K, hK⟩ : ∃ K, (tr.map (·.2) ++ [H1])[j]? = some K := ⟨_, List.getElem?_eq_getElem (by simp; omega)⟩
  exact meet_rptr h1 hK h2 h3
theorem meet_any_skip {i : Nat} {H : Heap} {g : Regs} {d : Option Tmp} {op : Op} {ty : TypeId} {ps : String} {af : Array Edge} {k : Nat} {b c : Bool}
    (h1 : tr[i]? = some (g, H)) (h2 : ops[i]? = some ⟨d, op, ty, ps, af, some (k, b)⟩) (h3 : ((dstAt ops.toList k).bind fun d => (ev n g (.tmp d)).bind boolOf) = some c) (h4 : (c == b) = false) : ∀ j, j < tr.length + 1 → meet1 n ops tr H1 (i, j) := by
  intro j hj
  obtain ⟨K, hK⟩ : ∃ K, (tr.map (·.2) ++ [H1])[j]? = some K := ⟨_, List.getElem?_eq_getElem (by simp; omega)⟩
  exact meet_skip h1 hK h2 h3 h4
/-- A part of the reads, then the others. -/
theorem meets_split {ps : List (Nat × Nat)} (is : List Nat) (h : ∀ i ∈ is, ∀ j, j < tr.length + 1 → meet1 n ops tr H1 (i, j)) (hl : ps.all (fun p => decide (p.2 < tr.length + 1)) = true)
    (hr : ∀ p ∈ ps.filter (fun p => !is.contains p.1), meet1 n ops tr H1 p) : ∀ p ∈ ps, meet1 n ops tr H1 p := by
  intro p hp
  by_cases hc : is.contains p.1 = true
  · have h1 := List.all_eq_true.mp hl p hp
    simp only [decide_eq_true_eq] at h1
    exact h p.1 (by simpa using hc) p.2 h1
  · exact hr p (List.mem_filter.mpr ⟨hp, by simpa using hc⟩)
theorem meet_any_ptr {i : Nat} {H : Heap} {g : Regs} {d : Option Tmp} {t : TypeId} {x : Operand} {ty : TypeId} {ps : String} {af : Array Edge} {gd : Option (Nat × Bool)} {b off : Nat}
    (h1 : tr[i]? = some (g, H)) (h2 : ops[i]? = some ⟨d, .load t x, ty, ps, af, gd⟩) (h3 : ev n g x = some (.ptr b off)) (hall : ∀ K ∈ tr.map (·.2) ++ [H1], K.objs b = H.objs b) : ∀ j, j < tr.length + 1 → meet1 n ops tr H1 (i, j) := by
  intro j hj
  obtain ⟨K, hK⟩ : ∃ K, (tr.map (·.2) ++ [H1])[j]? = some K := ⟨_, List.getElem?_eq_getElem (by simp; omega)⟩
  exact meet_ptr h1 hK h2 h3 (hall K (List.mem_of_getElem? hK))
/-- Reads that only meet one heap. -/
theorem meets_const {ps : List (Nat × Nat)} (m : Nat) (K : Heap) (hps : ps.all (fun p => decide (p.1 ≤ m) && decide (p.2 ≤ m)) = true) (hm : m < tr.length) (hK : ∀ i, i ≤ m → ∃ g, tr[i]? = some (g, K)) :
    ∀ p ∈ ps, meet1 n ops tr H1 p := by
  intro p hp
  have h1 := List.all_eq_true.mp hps p hp
  simp only [Bool.and_eq_true, decide_eq_true_eq] at h1
  obtain ⟨g, hg⟩ := hK p.1 h1.1
  obtain ⟨g', hg'⟩ := hK p.2 h1.2
  refine ⟨g, K, K, hg, ?_, Or.inl rfl⟩
  rw [List.getElem?_append_left (by simp; omega), List.getElem?_map, hg']
  rfl
theorem meets_same {ps : List (Nat × Nat)} (m : Nat) (K : Heap) (hps : ps.all (fun p => decide (p.1 ≤ m) && decide (p.2 ≤ m) && decide (p.1 < tr.length)) = true) (hK : ∀ i, i ≤ m → (tr.map (·.2) ++ [H1])[i]? = some K) :
    ∀ p ∈ ps, meet1 n ops tr H1 p := by
  intro p hp
  have h1 := List.all_eq_true.mp hps p hp
  simp only [Bool.and_eq_true, decide_eq_true_eq] at h1
  obtain ⟨⟨h1, h2⟩, h3⟩ := h1
  obtain ⟨⟨g, H⟩, hg⟩ : ∃ x, tr[p.1]? = some x := ⟨_, List.getElem?_eq_getElem h3⟩
  have h4 := hK p.1 h1
  rw [List.getElem?_append_left (by simp; omega), List.getElem?_map, hg] at h4
  simp only [Option.map_some, Option.some.injEq] at h4
  subst h4
  exact ⟨g, H, H, hg, hK p.2 h2, Or.inl rfl⟩
end
end Go.AM
