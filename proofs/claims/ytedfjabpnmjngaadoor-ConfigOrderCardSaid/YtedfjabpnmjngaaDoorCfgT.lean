/- Lines of a text, and words of a line, as lists of bytes: plain. -/
import Derived.Test.YtedfjabpnmjngaaDoorCfgG
set_option linter.unusedSimpArgs false
set_option linter.unusedVariables false
namespace Go.Proofs.Tryd
open Go Go.AM

/- LINES -/
def linesL : List UInt8 → List (List UInt8)
  | [] => [[]]
  | b :: r => if b = 10 then [] :: linesL r else match linesL r with
    | x :: xs => (b :: x) :: xs
    | [] => [[b]]
theorem split_lines : ∀ l : List UInt8, Lib.splitK [10] 0 (Lib.count l [10]) l = linesL l
  | [] => by
    rw [Lib.count_one]; rfl
  | b :: r => by
    have ih := split_lines r
    by_cases hb : b = 10
    · subst hb
      have hix : Lib.index (10 :: r) [10] = 0 := by rw [Lib.index]; simp [List.isPrefixOf]
      rw [Lib.count_cons_eq, Nat.add_comm, Lib.splitK, hix, linesL, if_pos rfl]
      simp [ih]
    · have hp : ([10] : List UInt8).isPrefixOf (b :: r) = false := by simp [List.isPrefixOf, Ne.symm hb]
      have hix : Lib.index (b :: r) [10] = if Lib.index r [10] == -1 then -1 else Lib.index r [10] + 1 := by rw [Lib.index, hp]; simp
      rw [Lib.count_cons_ne b 10 r hb, linesL, if_neg hb, ← ih]
      by_cases hm : Lib.index r [10] = -1
      · rw [Lib.count_miss hm]; rfl
      · have hge := Lib.index_ge r [10]
        obtain ⟨j, hj⟩ : ∃ j : Nat, Lib.index r [10] = j := ⟨(Lib.index r [10]).toNat, by omega⟩
        rw [Lib.count_hit (by simp) hj, Nat.add_comm 1, Lib.splitK, Lib.splitK, hix, hj]
        have e1 : ((j : Int) == -1) = false := by rw [beq_eq_false_iff_ne]; omega
        have e2 : ((j : Int) + 1 == -1) = false := by rw [beq_eq_false_iff_ne]; omega
        simp only [e1, e2, Bool.false_eq_true, if_false, Int.toNat_natCast]
        have e3 : ((j : Int) + 1).toNat = j + 1 := by omega
        rw [e3]
        simp
theorem lines_eq (s : ByteArray) : (linesB s).map (·.data.toList) = linesL s.data.toList := by
  unfold linesB
  rw [Lib.splitB_data]
  exact split_lines _
theorem linesL_cons (x r : List UInt8) (h : ∀ b ∈ x, b ≠ 10) : linesL (x ++ 10 :: r) = x :: linesL r := by
  induction x with
  | nil => simp [linesL]
  | cons b t ih =>
    have hb := h b (by simp)
    rw [List.cons_append, linesL, if_neg hb, ih (fun c hc => h c (by simp [hc]))]
theorem linesL_one (x : List UInt8) (h : ∀ b ∈ x, b ≠ 10) : linesL x = [x] := by
  induction x with
  | nil => simp [linesL]
  | cons b t ih =>
    have hb := h b (by simp)
    rw [linesL, if_neg hb, ih (fun c hc => h c (by simp [hc]))]

/- WORDS -/
def bl (b : UInt8) : Bool := b == 32 || b == 9
def wordsGo : List UInt8 → List UInt8 → List (List UInt8)
  | cur, [] => if cur = [] then [] else [cur]
  | cur, b :: r => if bl b then (if cur = [] then [] else [cur]) ++ wordsGo [] r else wordsGo (cur ++ [b]) r
theorem wordsGo_skip : ∀ (x cur r : List UInt8), (∀ b ∈ x, bl b = false) → wordsGo cur (x ++ r) = wordsGo (cur ++ x) r
  | [], cur, r, _ => by simp
  | b :: x, cur, r, h => by
    have hb := h b (by simp)
    rw [List.cons_append, wordsGo, hb]
    simp only [Bool.false_eq_true, if_false]
    rw [wordsGo_skip x _ r (fun c hc => h c (by simp [hc]))]
    simp
theorem bl_low {b : UInt8} (h : b.toNat < 128) : bl b = blank b.toNat := by
  unfold bl blank
  have h1 : (b == 32) = (b.toNat == 32) := by
    rw [Bool.eq_iff_iff, beq_iff_eq, beq_iff_eq]
    exact ⟨fun e => by subst e; rfl, fun e => UInt8.toNat.inj (by simpa using e)⟩
  have h2 : (b == 9) = (b.toNat == 9) := by
    rw [Bool.eq_iff_iff, beq_iff_eq, beq_iff_eq]
    exact ⟨fun e => by subst e; rfl, fun e => UInt8.toNat.inj (by simpa using e)⟩
  rw [h1, h2]
theorem bl_high {b : UInt8} (h : 128 ≤ b.toNat) : bl b = false := by
  unfold bl
  have h1 : (b == 32) = false := by rw [beq_eq_false_iff_ne]; intro e; subst e; simp at h
  have h2 : (b == 9) = false := by rw [beq_eq_false_iff_ne]; intro e; subst e; simp at h
  rw [h1, h2]; rfl
theorem blank_high {n : Nat} (h : 128 ≤ n) : blank n = false := by
  unfold blank
  have h1 : (n == 32) = false := by simp; omega
  have h2 : (n == 9) = false := by simp; omega
  rw [h1, h2]; rfl
theorem cont_high (s : ByteArray) (i k : Nat) (h : (decide (i + k < s.size) && (s.get! (i + k)).toNat / 64 == 2) = true) : ∃ hk : i + k < s.size, 128 ≤ s[i + k].toNat := by
  simp only [Bool.and_eq_true, decide_eq_true_eq, beq_iff_eq] at h
  refine ⟨h.1, ?_⟩
  have := h.2
  rw [get!_at s _ h.1] at this
  omega
/-- A rune that is no byte: so many bytes, all beyond ASCII. -/
theorem dec_span (s : ByteArray) (i : Nat) (hi : i < s.size) (h : ¬ s[i].toNat < 128) : 1 ≤ (Utf8.decode s i).2 ∧ i + (Utf8.decode s i).2 ≤ s.size ∧
    ∀ j (hj : i + j < s.size), j < (Utf8.decode s i).2 → 128 ≤ s[i + j].toNat := by
  have one : 1 ≤ 1 ∧ i + 1 ≤ s.size ∧ ∀ j (hj : i + j < s.size), j < 1 → 128 ≤ s[i + j].toNat := ⟨by omega, by omega, fun j hj h1 => by
    obtain rfl : j = 0 := by omega
    simp only [Nat.add_zero]; omega⟩
  unfold Utf8.decode
  simp only [Nat.add_zero, get!_at s i hi]
  rw [if_neg h]
  split
  · rename_i h2
    simp only [Bool.and_eq_true] at h2
    obtain ⟨k1, q1⟩ := cont_high s i 1 (by simpa using h2.2)
    split
    · refine ⟨by simp, by simp only; omega, fun j hj h1 => ?_⟩
      simp only at h1
      have : j = 0 ∨ j = 1 := by omega
      rcases this with rfl | rfl
      · simp only [Nat.add_zero]; omega
      · exact q1
    · exact one
  · split
    · rename_i h2
      simp only [Bool.and_eq_true] at h2
      obtain ⟨k1, q1⟩ := cont_high s i 1 (by simpa using h2.1.2)
      obtain ⟨k2, q2⟩ := cont_high s i 2 (by simpa using h2.2)
      split
      · refine ⟨by simp, by simp only; omega, fun j hj h1 => ?_⟩
        simp only at h1
        have : j = 0 ∨ j = 1 ∨ j = 2 := by omega
        rcases this with rfl | rfl | rfl
        · simp only [Nat.add_zero]; omega
        · exact q1
        · exact q2
      · exact one
    · split
      · rename_i h2
        simp only [Bool.and_eq_true] at h2
        obtain ⟨k1, q1⟩ := cont_high s i 1 (by simpa using h2.1.1.2)
        obtain ⟨k2, q2⟩ := cont_high s i 2 (by simpa using h2.1.2)
        obtain ⟨k3, q3⟩ := cont_high s i 3 (by simpa using h2.2)
        split
        · refine ⟨by simp, by simp only; omega, fun j hj h1 => ?_⟩
          simp only at h1
          have : j = 0 ∨ j = 1 ∨ j = 2 ∨ j = 3 := by omega
          rcases this with rfl | rfl | rfl | rfl
          · simp only [Nat.add_zero]; omega
          · exact q1
          · exact q2
          · exact q3
        · exact one
      · exact one
def piece (s : ByteArray) (x : Nat × Nat) : List UInt8 := (s.data.toList.drop x.1).take (x.2 - x.1)
def openW (s : ByteArray) (st : Option Nat) (pos : Nat) : List UInt8 := match st with
  | some a => piece s (a, pos)
  | none => []
theorem piece_ne {s : ByteArray} {a b : Nat} (h : a < b) (hb : b ≤ s.size) : piece s (a, b) ≠ [] := by
  intro e
  have := congrArg List.length e
  have hs : s.data.toList.length = s.size := Array.length_toList
  simp only [piece, List.length_take, List.length_drop, List.length_nil, hs] at this
  omega
theorem piece_more {s : ByteArray} {a b w : Nat} (h : a ≤ b) (hw : b + w ≤ s.size) : piece s (a, b) ++ (s.data.toList.drop b).take w = piece s (a, b + w) := by
  unfold piece
  simp only
  have : b + w - a = (b - a) + w := by omega
  rw [this, List.take_add, List.drop_drop]
  congr 2
  have : a + (b - a) = b := by omega
  rw [this]
theorem spans_words (s : ByteArray) : ∀ (f pos : Nat) (st : Option Nat) (acc : List (Nat × Nat)), s.size ≤ pos + f → pos ≤ s.size → (∀ a, st = some a → a < pos) →
    (Lib.closeSpans s (Lib.spansFromP blank s f pos st acc)).map (piece s) = acc.map (piece s) ++ wordsGo (openW s st pos) (s.data.toList.drop pos) := by
  intro f
  have hs : s.data.toList.length = s.size := Array.length_toList
  have fin : ∀ (pos : Nat) (st : Option Nat) (acc : List (Nat × Nat)), pos = s.size → (∀ a, st = some a → a < pos) →
      (Lib.closeSpans s (acc, st)).map (piece s) = acc.map (piece s) ++ wordsGo (openW s st pos) (s.data.toList.drop pos) := by
    intro pos st acc hp hst
    subst hp
    rw [List.drop_eq_nil_of_le (by omega)]
    cases st with
    | none => simp [Lib.closeSpans, openW, wordsGo]
    | some a =>
      have := piece_ne (s := s) (hst a rfl) (by omega)
      simp [Lib.closeSpans, openW, wordsGo, this]
  induction f with
  | zero =>
    intro pos st acc h hp hst
    rw [Lib.spansFromP]
    exact fin pos st acc (by omega) hst
  | succ f ih =>
    intro pos st acc h hp hst
    unfold Lib.spansFromP
    by_cases hlt : pos < s.size
    · rw [if_pos hlt]
      have hd : s.data.toList.drop pos = s[pos] :: s.data.toList.drop (pos + 1) := drop_at s pos hlt
      by_cases hlow : s[pos].toNat < 128
      · rw [dec_low s pos hlt hlow]
        simp only
        rw [← bl_low hlow]
        cases hb : bl s[pos] with
        | true =>
          simp only [if_true]
          rw [hd, wordsGo, hb]
          simp only [if_true]
          cases st with
          | none =>
            simp only
            rw [ih (pos + 1) none acc (by omega) (by omega) (fun a e => by cases e)]
            simp [openW]
          | some a =>
            simp only
            rw [ih (pos + 1) none _ (by omega) (by omega) (fun a e => by cases e)]
            have := piece_ne (s := s) (hst a rfl) hp
            simp [openW, this]
        | false =>
          simp only [Bool.false_eq_true, if_false]
          rw [hd, wordsGo, hb]
          simp only [Bool.false_eq_true, if_false]
          have hone : (s.data.toList.drop pos).take 1 = [s[pos]] := by rw [hd]; simp
          cases st with
          | none =>
            simp only
            rw [ih (pos + 1) (some pos) acc (by omega) (by omega) (fun a e => by cases e; omega)]
            congr 2
            simp only [openW]
            rw [← piece_more (Nat.le_refl pos) (by omega), hone]
            simp [piece]
          | some a =>
            simp only
            rw [ih (pos + 1) (some a) acc (by omega) (by omega) (fun a' e => by cases e; have := hst a rfl; omega)]
            congr 2
            simp only [openW]
            rw [← piece_more (by have := hst a rfl; omega) (by omega), hone]
      · have hh := dec_high s pos hlt hlow
        obtain ⟨hw1, hw2, hw3⟩ := dec_span s pos hlt hlow
        rw [blank_high hh]
        simp only [Bool.false_eq_true, if_false]
        generalize hw : (Utf8.decode s pos).2 = w at hw1 hw2 hw3
        have hsk : ∀ cur, wordsGo cur (s.data.toList.drop pos) = wordsGo (cur ++ (s.data.toList.drop pos).take w) (s.data.toList.drop (pos + w)) := by
          intro cur
          conv => lhs; rw [← List.take_append_drop w (s.data.toList.drop pos)]
          rw [wordsGo_skip, List.drop_drop]
          intro b hb
          obtain ⟨j, hj, rfl⟩ := List.mem_iff_getElem.mp hb
          simp only [List.length_take, List.length_drop, hs] at hj
          rw [List.getElem_take, List.getElem_drop]
          exact bl_high (hw3 j (by omega) (by omega))
        cases st with
        | none =>
          simp only
          rw [ih (pos + w) (some pos) acc (by omega) (by omega) (fun a e => by cases e; omega), hsk]
          congr 2
          simp only [openW]
          rw [← piece_more (Nat.le_refl pos) (by omega)]
          simp [piece]
        | some a =>
          simp only
          rw [ih (pos + w) (some a) acc (by omega) (by omega) (fun a' e => by cases e; have := hst a rfl; omega), hsk]
          congr 2
          simp only [openW]
          rw [← piece_more (by have := hst a rfl; omega) (by omega)]
    · rw [if_neg hlt]
      exact fin pos st acc (by omega) hst
theorem fields_words (s : ByteArray) : (Lib.goFieldsP blank s).map (·.data.toList) = wordsGo [] s.data.toList := by
  have := spans_words s s.size 0 none [] (by omega) (by omega) (fun a e => by cases e)
  unfold Lib.goFieldsP Lib.spansOfP
  rw [List.map_map]
  have e : ((fun x : ByteArray => x.data.toList) ∘ fun x : Nat × Nat => s.extract x.1 x.2) = piece s := by
    funext x
    simp only [Function.comp, piece]
    exact Lib.extract_data s x.1 x.2
  rw [e, this]
  simp [openW]
end Go.Proofs.Tryd
