/- Closing a Config law's card from a run of the abstract machine: the listed variables, the witness's world. -/
import Derived.Test.YtedfjabpnmjngaaDoorCfgP
import Derived.Test.YtedfjabpnmjngaaDoorAM27
import Derived.Test.YtedfjabpnmjngaaDoorCards
import Derived.Test.YtedfjabpnmjngaaDoorTie
import Derived.Deep.DeepWitnessRowRef
import Derived.Deep.DeepHandedRow
import Derived.Lib.LaidTab
import Derived.Stop.LaidErr
import Derived.ProofKit
import Derived.OpenShut
import Derived.Shelf.Vars
import Derived.Lib.LaidU8
import Derived.Lib.DecodeN
set_option linter.unusedSimpArgs false
set_option linter.unusedVariables false
namespace Go.Proofs.YtedfjabpnmjngaaDoor
open Go Go.AM Go.ChangeShapes Go.WideShapes Go.ChangeAt Go.RowKit

theorem own : ownKnob Tryd.prog.godebug = none := by kernel_rfl
theorem gPow : Tryd.prog.globalNamed "internal/strconv.uint64pow10" = some 1 := by kernel_rfl
theorem gPowType : (Tryd.prog.globals[1]?).map (·.type) = some 105 := by kernel_rfl
theorem cells105 : Tryd.prog.cellsOf 105 = 20 := by kernel_rfl
theorem cells88 : Tryd.prog.cellsOf 88 = 1 := by kernel_rfl

def laidList : List (String × DataW Unit) := Rows.configLastRow.laid
theorem laid_reads : Rows.configReadsRow.laid = laidList := rfl
theorem laid_order : Rows.configOrderRow.laid = laidList := rfl
theorem laid_prints : Rows.configPrintsRow.laid = laidList := rfl

/-- What the list gives: the table of powers. -/
theorem pow_tab {W : World} (h : laidMet Tryd.prog laidList W) : Lib.TabIs Tryd.prog W "internal/strconv.uint64pow10" .u64 Lib.pow10Tab :=
  Lib.tabIs_of_head (rest := [("unicode/utf8.acceptRanges", Rows.laid_unicode_utf8_acceptRanges), ("strconv.ErrRange", Rows.laid_strconv_ErrRange), ("strconv.ErrSyntax", Rows.laid_strconv_ErrSyntax), ("unicode/utf8.first", Rows.laid_unicode_utf8_first)])
    gPow gPowType Tryd.underlying105 Tryd.underlying88 cells88 cells105 h.tail.tail

theorem tab_below {W w : World} (hb : Below W.heap.size W w) (hlt : 1 < W.heap.size) (h : Lib.TabIs Tryd.prog W "internal/strconv.uint64pow10" .u64 Lib.pow10Tab) : Lib.TabIs Tryd.prog w "internal/strconv.uint64pow10" .u64 Lib.pow10Tab := by
  unfold Lib.TabIs World.var? at h ⊢
  rw [gPow] at h ⊢
  have e := hb.block 1 hlt
  simp only [Option.bind_some, Option.bind_eq_bind] at h ⊢
  rw [e]
  exact h
theorem tab_lt {W : World} (h : Lib.TabIs Tryd.prog W "internal/strconv.uint64pow10" .u64 Lib.pow10Tab) : 1 < W.heap.size := by
  unfold Lib.TabIs World.var? at h
  rw [gPow] at h
  simp only [Option.bind_some, Option.bind_eq_bind] at h
  cases hg : W.heap[1]? with
  | none => rw [hg] at h; cases h
  | some o => exact (Array.getElem?_eq_some_iff.mp hg).1

/-- The library's answers hold in every world that the law may come to. -/
theorem prims_of {W : World} (hL : laidMet Tryd.prog laidList W) (hsh : W.ShapedOpen Tryd.prog) : PrimsOk Tryd.prog (Below W.heap.size W) W.heap.size Tryd.prims := by
  have ht := pow_tab hL
  have hlt := tab_lt ht
  obtain ⟨m, hm⟩ : ∃ m, W.cell? ⟨0, 0, none⟩ = some (.int .i64 m) := Go.Proofs.cell_of_shapedOpen_int (zero := #[.int .i64 0]) (t := 3) hsh (of_decide_eq_true (by kernel_rfl)) (by kernel_rfl) rfl (by kernel_rfl) (by kernel_rfl) Tryd.underlying3
  exact Tryd.prims_ok (by omega) hm fun w hb => tab_below hb hlt ht

/- THE WITNESS's WORLD -/
noncomputable def laidWorld (os : Os) : World :=
  let N := (World.settled Tryd.prog os).heap.size
  let w0 := World.holding Tryd.prog os ⟨#[.cells #[.string ⟨#[118, 97, 108, 117, 101, 32, 111, 117, 116, 32, 111, 102, 32, 114, 97, 110, 103, 101]⟩] 127, .cells #[.string ⟨#[105, 110, 118, 97, 108, 105, 100, 32, 115, 121, 110, 116, 97, 120]⟩] 127], #[], []⟩
  let put (h : Array Obj) (g : Nat) (cs : Array Value) : Array Obj := h.modify g fun
    | .cells _ t frozen => .cells cs t frozen
    | o => o
  let h0 := put (put w0.heap 5 #[.iface 125 (.pointer (some ⟨N, 0, none⟩))]) 4 #[.iface 125 (.pointer (some ⟨N + 1, 0, none⟩))]
  let h1 := put h0 2 (Lib.firstTab.map fun z => Value.int .u8 z).toArray
  let h2 := put h1 3 ((List.range 16).flatMap fun i => [Value.int .u8 (Lib.accLo i), Value.int .u8 (Lib.accHi i)]).toArray
  let h3 := put h2 1 (Lib.pow10Tab.map fun z => Value.int .u64 z).toArray
  let h4 := put h3 6 (#[0, 1, 28, 2, 29, 14, 24, 3, 30, 22, 20, 15, 25, 17, 4, 8, 31, 27, 13, 23, 21, 19, 16, 7, 26, 12, 18, 6, 11, 5, 10, 9].map fun z => Value.int .u8 z)
  let h5 := put h4 7 (#[0, 1, 56, 2, 57, 49, 28, 3, 61, 58, 42, 50, 38, 29, 17, 4, 62, 47, 59, 36, 45, 43, 51, 22, 53, 39, 33, 30, 24, 18, 12, 5, 63, 55, 48, 27, 60, 41, 37, 16, 46, 35, 44, 21, 52, 32, 23, 11, 54, 26, 40, 15, 34, 20, 31, 10, 25, 14, 19, 9, 13, 8, 7, 6].map fun z => Value.int .u8 z)
  { w0 with heap := h5 }
theorem laid_met (os : Os) (args : Array Value) : laidMet Tryd.prog laidList ((laidWorld os).forCall (fun _ _ => 0) ⟨#[], args, []⟩).memory :=
  laidMet_of_run' 8 (by kernel_rfl) (by kernel_rfl)
set_option maxRecDepth 100000 in
theorem row_bool {H : Type} {enc : TypeId × Value → H} {W : World} {r : Reach} {b0 base : Nat} {spare : Nat → Bool} {held : Bool} {v : Value} {d : DataW H} {ps : List MemPlace}
    (hv : Value.okWide Tryd.prog W r b0 35 v) (hd : DataW.Trod enc Tryd.prog W base spare held 35 v d ps) : ∃ (l : List Bool) (a : AV), Row1 .bool a l ∧ Vr (sim0 W) W a v := by
  rcases arg_row (α := Bool) AV.bool (fun _ => True) Tryd.underlying35 (by kernel_rfl) (fun fuel x y h => by
    obtain ⟨b, hb, _⟩ := DataW.trod_bool Tryd.underlying4 h
    cases hb
    exact ⟨b, rfl, trivial⟩) hv hd with h | ⟨l, h, _, _⟩
  · exact ⟨[], _, .inl ⟨rfl, rfl⟩, h⟩
  · exact ⟨l, .slice .ro 1 (l.map AV.bool) l.length, .inr ⟨.ro, rfl⟩, h⟩
set_option maxRecDepth 100000 in
theorem row_int {H : Type} {enc : TypeId × Value → H} {W : World} {r : Reach} {b0 base : Nat} {spare : Nat → Bool} {held : Bool} {v : Value} {d : DataW H} {ps : List MemPlace}
    (hv : Value.okWide Tryd.prog W r b0 22 v) (hd : DataW.Trod enc Tryd.prog W base spare held 22 v d ps) : ∃ (l : List Int) (a : AV), Row1 (.int .i64) a l ∧ Vr (sim0 W) W a v := by
  rcases arg_row (α := Int) (AV.int .i64) (fun _ => True) Tryd.underlying22 (by kernel_rfl) (fun fuel x y h => by
    obtain ⟨b, hb, _⟩ := DataW.trod_int Tryd.underlying3 h
    cases hb
    exact ⟨b, rfl, trivial⟩) hv hd with h | ⟨l, h, _, _⟩
  · exact ⟨[], _, .inl ⟨rfl, rfl⟩, h⟩
  · exact ⟨l, .slice .ro 1 (l.map (AV.int .i64)) l.length, .inr ⟨.ro, rfl⟩, h⟩

end Go.Proofs.YtedfjabpnmjngaaDoor
