/- ConfigLast: the walk, and what is read. -/
import Derived.Test.YtedfjabpnmjngaaDoorCfgM
set_option linter.unusedSimpArgs false
set_option linter.unusedVariables false
namespace Go.Proofs.Tryd
open Go Go.AM

/- PLAIN -/
def nml (k : Nat) : List UInt8 := (namesL.getD (k + 1) ⟨#[]⟩).data.toList
def onW (b : Bool) : List UInt8 := if b then [111, 110] else [111, 102, 102]
def line1 (k : Nat) (b : Bool) : List UInt8 := nml k ++ [32] ++ onW b ++ [10]
def text1 (k : Nat) (l : List Bool) : List UInt8 := l.flatMap (line1 k)
def setOn (k : Nat) (c : Cfg) (b : Bool) : Cfg := { c with on := c.on.set (k + 1) b }
def onAll (k : Nat) (l : List Bool) (c : Cfg) : Cfg := l.foldl (setOn k) c
def stepOf (n : Int) : Int := 1 + n % 9
def line2 (n : Int) : List UInt8 := [105, 110, 100, 101, 110, 116, 32] ++ [UInt8.ofNat (48 + stepOf n).toNat] ++ [10]
def text2 (ns : List Int) : List UInt8 := ns.flatMap line2
def setSt (c : Cfg) (n : Int) : Cfg := { c with st := stepOf n }
def stAll (ns : List Int) (c : Cfg) : Cfg := ns.foldl setSt c

theorem line1_len (k : Nat) (hk : k < 9) (b : Bool) : (line1 k b).length ≤ 10 := by
  match k, hk with
  | 0, _ | 1, _ | 2, _ | 3, _ | 4, _ | 5, _ | 6, _ | 7, _ | 8, _ => cases b <;> decide
theorem text1_len (k : Nat) (hk : k < 9) (l : List Bool) : (text1 k l).length ≤ 10 * l.length := by
  induction l with
  | nil => simp [text1]
  | cons b r ih =>
    have := line1_len k hk b
    simp only [text1, List.flatMap_cons, List.length_append, List.length_cons] at ih ⊢
    omega
theorem text2_len (ns : List Int) : (text2 ns).length = 9 * ns.length := by
  induction ns with
  | nil => rfl
  | cons b r ih =>
    simp only [text2, List.flatMap_cons, List.length_append, List.length_cons] at ih ⊢
    rw [ih]
    simp [line2]; omega
theorem lineL1 (k : Nat) (hk : k < 9) (b : Bool) (c : Cfg) : lineL c (nml k ++ [32] ++ onW b) = some (setOn k c b) := by
  match k, hk with
  | 0, _ | 1, _ | 2, _ | 3, _ | 4, _ | 5, _ | 6, _ | 7, _ | 8, _ => cases b <;> (show _ = _; kernel_rfl)
theorem nml_nl (k : Nat) (hk : k < 9) (b : Bool) : ∀ x ∈ nml k ++ [32] ++ onW b, x ≠ 10 := by
  match k, hk with
  | 0, _ | 1, _ | 2, _ | 3, _ | 4, _ | 5, _ | 6, _ | 7, _ | 8, _ => cases b <;> decide
theorem lineL2 (m : Nat) (h1 : 1 ≤ m) (h2 : m ≤ 9) (c : Cfg) : lineL c ([105, 110, 100, 101, 110, 116, 32] ++ [UInt8.ofNat (48 + m)]) = some { c with st := m } := by
  match m, h1, h2 with
  | 1, _, _ | 2, _, _ | 3, _, _ | 4, _, _ | 5, _, _ | 6, _, _ | 7, _, _ | 8, _, _ | 9, _, _ => show _ = _; kernel_rfl
theorem line2_nl (m : Nat) (h1 : 1 ≤ m) (h2 : m ≤ 9) : ∀ x ∈ [105, 110, 100, 101, 110, 116, 32] ++ [UInt8.ofNat (48 + m)], x ≠ 10 := by
  match m, h1, h2 with
  | 1, _, _ | 2, _, _ | 3, _, _ | 4, _, _ | 5, _, _ | 6, _, _ | 7, _, _ | 8, _, _ | 9, _, _ => decide
theorem read1 (k : Nat) (hk : k < 9) : ∀ (l : List Bool) (c : Cfg) (r : List UInt8), readL c (linesL (text1 k l ++ r)) = readL (onAll k l c) (linesL r)
  | [], c, r => rfl
  | b :: l, c, r => by
    have e : text1 k (b :: l) ++ r = (nml k ++ [32] ++ onW b) ++ 10 :: (text1 k l ++ r) := by simp [text1, line1]
    rw [e, readL_line (nml_nl k hk b) (lineL1 k hk b c), read1 k hk l]
    rfl
theorem read2 : ∀ (ns : List Int) (c : Cfg), readL c (linesL (text2 ns)) = some (stAll ns c)
  | [], c => rfl
  | n :: ns, c => by
    have h0 := Int.emod_nonneg n (by omega : (9 : Int) ≠ 0)
    have h1 := Int.emod_lt_of_pos n (by omega : (0 : Int) < 9)
    obtain ⟨m, hm⟩ : ∃ m : Nat, stepOf n = m := ⟨(stepOf n).toNat, by unfold stepOf; omega⟩
    have hm1 : 1 ≤ m := by unfold stepOf at hm; omega
    have hm9 : m ≤ 9 := by unfold stepOf at hm; omega
    have e : text2 (n :: ns) = ([105, 110, 100, 101, 110, 116, 32] ++ [UInt8.ofNat (48 + m)]) ++ 10 :: text2 ns := by
      have : (48 + stepOf n).toNat = 48 + m := by omega
      simp [text2, line2, this]
    rw [e, readL_line (line2_nl m hm1 hm9) (lineL2 m hm1 hm9 c), read2 ns]
    simp [stAll, setSt, hm]
theorem onAll_len (k : Nat) : ∀ (l : List Bool) (c : Cfg), c.on.length = 10 → (onAll k l c).on.length = 10
  | [], c, h => h
  | b :: l, c, h => onAll_len k l _ (by simp [setOn, h])
theorem onAll_nums (k : Nat) : ∀ (l : List Bool) (c : Cfg), (onAll k l c).w = c.w ∧ (onAll k l c).st = c.st ∧ (onAll k l c).em = c.em ∧ (onAll k l c).de = c.de
  | [], c => ⟨rfl, rfl, rfl, rfl⟩
  | b :: l, c => onAll_nums k l _
theorem stAll_ok : ∀ (ns : List Int) (c : Cfg), okCfg c = true → okCfg (stAll ns c) = true
  | [], c, h => h
  | n :: ns, c, h => stAll_ok ns _ (by
      have h0 := Int.emod_nonneg n (by omega : (9 : Int) ≠ 0)
      have h1 := Int.emod_lt_of_pos n (by omega : (0 : Int) < 9)
      simp only [okCfg, Bool.and_eq_true, decide_eq_true_eq] at h ⊢
      simp only [setSt, stepOf]
      omega)
theorem stAll_len : ∀ (ns : List Int) (c : Cfg), (stAll ns c).on = c.on
  | [], c => rfl
  | n :: ns, c => stAll_len ns _
theorem onAll_ok (k : Nat) (l : List Bool) : okCfg (onAll k l plainCfg) = true := by
  obtain ⟨a, b, c, d⟩ := onAll_nums k l plainCfg
  unfold okCfg
  rw [a, b, c, d]
  decide
theorem last_parse (k : Nat) (hk : k < 9) (l : List Bool) (ns : List Int) (hl : l.length ≤ 20) (hn : ns.length ≤ 10) : parseN (tx (text1 k l ++ text2 ns)) = (stAll ns (onAll k l plainCfg), 0) := by
  refine parseN_ok ?_ ?_ (stAll_ok _ _ (onAll_ok k l))
  · have := text1_len k hk l
    rw [List.length_append, text2_len]; omega
  · rw [read1 k hk, read2]
theorem take_next {α : Type} {l : List α} {i : Nat} {x : α} (h : l[i]? = some x) : l.take (i + 1) = l.take i ++ [x] := by
  rw [List.take_add_one, h]; rfl
theorem text1_next {k : Nat} {l : List Bool} {i : Nat} {b : Bool} (h : l[i]? = some b) : text1 k (l.take (i + 1)) = text1 k (l.take i) ++ line1 k b := by
  rw [take_next h]; simp [text1]
theorem onAll_next {k : Nat} {l : List Bool} {i : Nat} {b : Bool} (h : l[i]? = some b) (c : Cfg) : onAll k (l.take (i + 1)) c = setOn k (onAll k (l.take i) c) b := by
  rw [take_next h]; simp [onAll]
theorem text2_next {l : List Int} {i : Nat} {b : Int} (h : l[i]? = some b) : text2 (l.take (i + 1)) = text2 (l.take i) ++ line2 b := by
  rw [take_next h]; simp [text2]
theorem stAll_next {l : List Int} {i : Nat} {b : Int} (h : l[i]? = some b) (c : Cfg) : stAll (l.take (i + 1)) c = setSt (stAll (l.take i) c) b := by
  rw [take_next h]; simp [stAll]

/- WALK -/
def nmsA : List ByteArray := namesL.drop 1
theorem build24_9 (H : Heap) : buildSliceA Tryd.prog false 24 9 [(0, .str ⟨#[116, 114, 97, 105, 108]⟩), (1, .str ⟨#[108, 111, 110, 103]⟩), (2, .str ⟨#[115, 116, 101, 112]⟩), (3, .str ⟨#[101, 109, 112, 116, 121]⟩),
    (4, .str ⟨#[109, 97, 114, 107]⟩), (5, .str ⟨#[104, 97, 115, 104]⟩), (6, .str ⟨#[99, 111, 109, 109, 97]⟩), (7, .str ⟨#[116, 119, 105, 99, 101]⟩), (8, .str ⟨#[101, 110, 100]⟩)] H =
    some (.slice .full 1 (nmsA.map .str) 9, H) := by kernel_rfl
theorem nms_at (k : Nat) (hk : k < 9) : nmsA[k]? = some (tx (nml k)) := by
  match k, hk with
  | 0, _ | 1, _ | 2, _ | 3, _ | 4, _ | 5, _ | 6, _ | 7, _ | 8, _ => rfl
end Go.Proofs.Tryd
