/- ConfigOrder. -/
import Derived.Test.YtedfjabpnmjngaaDoorRefE
set_option linter.unusedSimpArgs false
set_option linter.unusedVariables false
namespace Go.Proofs.Tryd
open Go Go.AM

/- PLAIN -/
def opO (l : List Bool) (d m j : Nat) (c : Cfg) : Cfg := if j < m then setOn j c (l.getD j false) else { c with st := d }
def lineO (l : List Bool) (d m j : Nat) : List UInt8 := if j < m then nml j ++ [32] ++ onW (l.getD j false) else [105, 110, 100, 101, 110, 116, 32] ++ [UInt8.ofNat (48 + d)]
def textO (l : List Bool) (d m : Nat) (js : List Nat) : List UInt8 := js.flatMap fun j => lineO l d m j ++ [10]
def foldO (l : List Bool) (d m : Nat) (js : List Nat) (c : Cfg) : Cfg := js.foldl (fun c j => opO l d m j c) c
def rotO (n k : Nat) : List Nat := (List.range n).map fun i => (i + k) % n
theorem lineO_read {l : List Bool} {d m j : Nat} (hd1 : 1 ≤ d) (hd : d ≤ 9) (hm : m ≤ 9) (c : Cfg) : lineL c (lineO l d m j) = some (opO l d m j c) := by
  unfold lineO opO
  split
  · exact lineL1 j (by omega) _ c
  · exact lineL2 d hd1 hd c
theorem lineO_nl {l : List Bool} {d m j : Nat} (hd1 : 1 ≤ d) (hd : d ≤ 9) (hm : m ≤ 9) : ∀ x ∈ lineO l d m j, x ≠ 10 := by
  unfold lineO
  split
  · exact nml_nl j (by omega) _
  · exact line2_nl d hd1 hd
theorem lineO_len {l : List Bool} {d m j : Nat} (hm : m ≤ 9) : (lineO l d m j).length ≤ 9 := by
  unfold lineO
  split
  · have := line1_len j (by omega) (l.getD j false)
    simp only [line1, List.length_append, List.length_cons, List.length_nil] at this ⊢
    omega
  · simp
theorem textO_len {l : List Bool} {d m : Nat} (hm : m ≤ 9) (js : List Nat) : (textO l d m js).length ≤ 10 * js.length := by
  induction js with
  | nil => simp [textO]
  | cons j r ih =>
    have := lineO_len (l := l) (d := d) (j := j) hm
    simp only [textO, List.flatMap_cons, List.length_append, List.length_cons, List.length_nil] at ih ⊢
    omega
theorem read_O {l : List Bool} {d m : Nat} (hd1 : 1 ≤ d) (hd : d ≤ 9) (hm : m ≤ 9) : ∀ (js : List Nat) (c : Cfg), readL c (linesL (textO l d m js)) = some (foldO l d m js c)
  | [], c => rfl
  | j :: r, c => by
    have e : textO l d m (j :: r) = lineO l d m j ++ 10 :: textO l d m r := by simp [textO]
    rw [e, readL_line (lineO_nl hd1 hd hm) (lineO_read hd1 hd hm c), read_O hd1 hd hm r]
    rfl
theorem rot_same (l : List Bool) (d : Nat) : ∀ n, (1 ≤ n ∧ n ≤ 10) → ∀ k, k < n → foldO l d (n - 1) (rotO n k) plainCfg = foldO l d (n - 1) (List.range n) plainCfg
  | 1, _, k, hk => match k, hk with
    | 0, _ => by (show _ = _; kernel_rfl)
  | 2, _, k, hk => match k, hk with
    | 0, _ | 1, _ => by (show _ = _; kernel_rfl)
  | 3, _, k, hk => match k, hk with
    | 0, _ | 1, _ | 2, _ => by (show _ = _; kernel_rfl)
  | 4, _, k, hk => match k, hk with
    | 0, _ | 1, _ | 2, _ | 3, _ => by (show _ = _; kernel_rfl)
  | 5, _, k, hk => match k, hk with
    | 0, _ | 1, _ | 2, _ | 3, _ | 4, _ => by (show _ = _; kernel_rfl)
  | 6, _, k, hk => match k, hk with
    | 0, _ | 1, _ | 2, _ | 3, _ | 4, _ | 5, _ => by (show _ = _; kernel_rfl)
  | 7, _, k, hk => match k, hk with
    | 0, _ | 1, _ | 2, _ | 3, _ | 4, _ | 5, _ | 6, _ => by (show _ = _; kernel_rfl)
  | 8, _, k, hk => match k, hk with
    | 0, _ | 1, _ | 2, _ | 3, _ | 4, _ | 5, _ | 6, _ | 7, _ => by (show _ = _; kernel_rfl)
  | 9, _, k, hk => match k, hk with
    | 0, _ | 1, _ | 2, _ | 3, _ | 4, _ | 5, _ | 6, _ | 7, _ | 8, _ => by (show _ = _; kernel_rfl)
  | 10, _, k, hk => match k, hk with
    | 0, _ | 1, _ | 2, _ | 3, _ | 4, _ | 5, _ | 6, _ | 7, _ | 8, _ | 9, _ => by (show _ = _; kernel_rfl)
theorem foldO_inv {l : List Bool} {d m : Nat} (hd1 : 1 ≤ d) (hd : d ≤ 9) : ∀ (js : List Nat) (c : Cfg), c.on.length = 10 ∧ okCfg c = true → (foldO l d m js c).on.length = 10 ∧ okCfg (foldO l d m js c) = true
  | [], c, h => h
  | j :: r, c, h => by
    refine foldO_inv hd1 hd r _ ?_
    show (opO l d m j c).on.length = 10 ∧ okCfg (opO l d m j c) = true
    unfold opO
    split
    · refine ⟨by simp [setOn, h.1], ?_⟩
      have := (ok_iff c).mp h.2
      exact (ok_iff _).mpr (by simp only [setOn]; exact this)
    · refine ⟨h.1, ?_⟩
      have := (ok_iff c).mp h.2
      exact (ok_iff _).mpr (by simp only; omega)
theorem plain_inv : plainCfg.on.length = 10 ∧ okCfg plainCfg = true := by decide
theorem parse_O {l : List Bool} {d m : Nat} (hd1 : 1 ≤ d) (hd : d ≤ 9) (hm : m ≤ 9) (js : List Nat) (hjs : js.length ≤ 10) : parseN (tx (textO l d m js)) = (foldO l d m js plainCfg, 0) := by
  refine parseN_ok ?_ (read_O hd1 hd hm js plainCfg) (foldO_inv hd1 hd js _ plain_inv).2
  have := textO_len (l := l) (d := d) hm js
  omega
/-- The rows, as they are made. -/
def rowsO (l : List Bool) (i : Nat) : List ByteArray := (List.range i).map fun j => tx (nml j ++ [32] ++ onW (l.getD j false))
theorem rowsO_next (l : List Bool) (i : Nat) : rowsO l (i + 1) = rowsO l i ++ [tx (nml i ++ [32] ++ onW (l.getD i false))] := by
  unfold rowsO; rw [List.range_succ, List.map_append]; rfl
def allO (l : List Bool) (d m : Nat) : List ByteArray := rowsO l m ++ [tx ([105, 110, 100, 101, 110, 116, 32] ++ [UInt8.ofNat (48 + d)])]
theorem allO_at (l : List Bool) (d m j : Nat) (hj : j ≤ m) : (allO l d m)[j]? = some (tx (lineO l d m j)) := by
  unfold allO lineO
  by_cases h : j < m
  · rw [if_pos h, List.getElem?_append_left (by simp [rowsO, h])]
    unfold rowsO
    rw [List.getElem?_map, List.getElem?_range h]
    rfl
  · have : j = m := by omega
    subst this
    rw [if_neg h, List.getElem?_append_right (by simp [rowsO])]
    simp [rowsO]
theorem textO_range (l : List Bool) (d m i : Nat) : textO l d m (List.range (i + 1)) = textO l d m (List.range i) ++ lineO l d m i ++ [10] := by
  unfold textO
  rw [List.range_succ, List.flatMap_append]
  simp
theorem textO_rot (l : List Bool) (d m n k i : Nat) : textO l d m ((List.range (i + 1)).map fun i => (i + k) % n) = textO l d m ((List.range i).map fun i => (i + k) % n) ++ lineO l d m ((i + k) % n) ++ [10] := by
  unfold textO
  rw [List.range_succ, List.map_append, List.flatMap_append]
  simp

end Go.Proofs.Tryd
