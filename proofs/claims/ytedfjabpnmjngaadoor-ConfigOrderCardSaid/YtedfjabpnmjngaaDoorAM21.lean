/- Operations, one lemma each: what a step of the abstract machine asks, and what values come of it. -/
import Derived.Test.YtedfjabpnmjngaaDoorAM20
import Derived.Laws.Strings
set_option linter.unusedSimpArgs false
set_option linter.unusedVariables false
namespace Go.AM
open Go

def noHints : Hints := ⟨fun _ _ => false, fun _ _ => false⟩
theorem noHints_freeze (f : FuncId) (t : Tmp) : noHints.freeze f t = false := rfl
theorem noHints_heap (f : FuncId) (t : Tmp) : noHints.heap f t = false := rfl

section
variable (P : Program) (h : Hints) (pr : Prims) (f : FuncId) (n : Nat) (g : Regs) (H : Heap) (k : Regs → Heap → Prop)

theorem wpL_nil (all : List Oper) : wpL P h pr f n all [] g H k = k g H := rfl
theorem wpL_cons (all : List Oper) (d : Option Tmp) (op : Op) (ty : TypeId) (ps : String) (af : Array Edge) (rest : List Oper) :
    wpL P h pr f n all (⟨d, op, ty, ps, af, none⟩ :: rest) g H k =
      (dstOk n d = true ∧ wpD P h pr f n g H ⟨d, op, ty, ps, af, none⟩ fun g H => wpL P h pr f n all rest g H k) := rfl
theorem wpL_guard (all : List Oper) (d : Option Tmp) (op : Op) (ty : TypeId) (ps : String) (af : Array Edge) (j : Nat) (b : Bool) (rest : List Oper) :
    wpL P h pr f n all (⟨d, op, ty, ps, af, some (j, b)⟩ :: rest) g H k =
      (dstOk n d = true ∧ Bd ((dstAt all j).bind fun d => (ev n g (.tmp d)).bind boolOf) (fun c =>
        Gd (c == b) (wpD P h pr f n g H ⟨d, op, ty, ps, af, some (j, b)⟩ fun g H => wpL P h pr f n all rest g H k) (wpL P h pr f n all rest (putO g d (.tuple [])) H k) .mk .mk) .mk) := rfl
theorem dstOk_some (d : Nat) : (dstOk n (some d) = true) = (d < n) := by simp [dstOk]
theorem dstOk_none : (dstOk n none = true) = True := by simp [dstOk]
theorem dstAt_zero (o : Oper) (r : List Oper) : dstAt (o :: r) 0 = o.dst := rfl
theorem dstAt_succ (o : Oper) (r : List Oper) (j : Nat) : dstAt (o :: r) (j + 1) = dstAt r j := rfl

variable (d : Option Tmp) (ty : TypeId) (ps : String) (af : Array Edge) (gd : Option (Nat × Bool))

def BdN {α : Type} (o : Option α) (k : α → Prop) : Prop := ∃ v, o = some v ∧ k v
theorem bd_eq {α : Type} (o : Option α) (k : α → Prop) (t : Tok k) : Bd o k t = BdN o k := rfl
theorem bd_bind {α β : Type} (o : Option α) (q : α → Option β) (k : β → Prop) : BdN (o.bind q) k = BdN o fun v => BdN (q v) k := by
  cases o
  · simp [BdN]
  · simp [BdN]
theorem bd_map {α β : Type} (o : Option α) (q : α → β) (k : β → Prop) : BdN (o.map q) k = BdN o fun v => k (q v) := by
  cases o
  · simp [BdN]
  · simp [BdN]
theorem bdn_some {α : Type} (v : α) (k : α → Prop) : BdN (some v) k = k v := by
  simp [BdN]

theorem wpD_move (x : Operand) : wpD P h pr f n g H ⟨d, .move x, ty, ps, af, gd⟩ k =
    Bd (ev n g x) (fun v => Bd (moveA (h.freeze f (d.getD 0)) H v) (fun r => k (putO g d r.1) r.2) .mk) .mk := by
  simp only [wpD, isCall, opA, bd_eq, bd_bind, ev]
theorem wpD_assign (x : Operand) : wpD P h pr f n g H ⟨d, .assign x, ty, ps, af, gd⟩ k =
    Bd (ev n g x) (fun v => Bd (moveA (h.freeze f (d.getD 0)) H v) (fun r => k (putO g d r.1) r.2) .mk) .mk := by
  simp only [wpD, isCall, opA, bd_eq, bd_bind, ev]
theorem wpD_pick (c x y : Operand) : wpD P h pr f n g H ⟨d, .pick c x y, ty, ps, af, gd⟩ k =
    Bd (ev n g c) (fun v => Bd (pickA v (ev n g x) (ev n g y)) (fun r => k (putO g d r) H) .mk) .mk := by
  simp only [wpD, isCall, opA, bd_eq, bd_bind, bd_map, ev]
theorem wpD_alloc (t : TypeId) : wpD P h pr f n g H ⟨d, .alloc t, ty, ps, af, gd⟩ k =
    Bd (zeroOf P t) (fun z => k (putO g d (.ptr H.next 0)) (H.new (.cells z))) .mk := by
  simp only [wpD, isCall, opA, bd_eq, bd_map, ev]
theorem wpD_load (t : TypeId) (x : Operand) : wpD P h pr f n g H ⟨d, .load t x, ty, ps, af, gd⟩ k =
    Bd (ev n g x) (fun p => Bd (loadA P t H p) (fun v => k (putO g d v) H) .mk) .mk := by
  simp only [wpD, isCall, opA, bd_eq, bd_bind, bd_map, ev]
theorem wpD_store (t : TypeId) (x y : Operand) : wpD P h pr f n g H ⟨d, .store t x y, ty, ps, af, gd⟩ k =
    Bd (ev n g x) (fun p => Bd (ev n g y) (fun v => Bd (storeA P t H p v) (fun H1 => k (putO g d (.tuple [])) H1) .mk) .mk) .mk := by
  simp only [wpD, isCall, opA, bd_eq, bd_bind, bd_map, ev]
theorem wpD_nilCheck (x : Operand) : wpD P h pr f n g H ⟨d, .nilCheck x, ty, ps, af, gd⟩ k =
    Bd (ev n g x) (fun p => Bd (nilCheckA p) (fun v => k (putO g d v) H) .mk) .mk := by
  simp only [wpD, isCall, opA, bd_eq, bd_bind, bd_map, ev]
theorem wpD_binOp (op : BinOp) (t : TypeId) (x y : Operand) (t' : TypeId) : wpD P h pr f n g H ⟨d, .binOp op t x y t', ty, ps, af, gd⟩ k =
    Bd (ev n g x) (fun vx => Bd (ev n g y) (fun vy => Bd (binOpA P op t x y vx vy) (fun v => k (putO g d v) H) .mk) .mk) .mk := by
  simp only [wpD, isCall, opA, bd_eq, bd_bind, bd_map, ev]
theorem wpD_unOp (op : UnOp) (t : TypeId) (x : Operand) : wpD P h pr f n g H ⟨d, .unOp op t x, ty, ps, af, gd⟩ k =
    Bd (ev n g x) (fun vx => Bd (unOpA P op vx) (fun v => k (putO g d v) H) .mk) .mk := by
  simp only [wpD, isCall, opA, bd_eq, bd_bind, bd_map, ev]
theorem wpD_convert (s t : TypeId) (x : Operand) : wpD P h pr f n g H ⟨d, .convert s t x, ty, ps, af, gd⟩ k =
    Bd (ev n g x) (fun vx => Bd (convertA P s t vx H) (fun v => k (putO g d v) H) .mk) .mk := by
  simp only [wpD, isCall, opA, bd_eq, bd_bind, bd_map, ev]
theorem wpD_makeInterface (t : TypeId) (x : Operand) : wpD P h pr f n g H ⟨d, .makeInterface t x, ty, ps, af, gd⟩ k =
    Bd (ev n g x) (fun vx => Bd (makeInterfaceA P t vx) (fun v => k (putO g d v) H) .mk) .mk := by
  simp only [wpD, isCall, opA, bd_eq, bd_bind, bd_map, ev]
def argsE (n : Nat) (g : Regs) (args : Array Operand) : Option (List AV) := argsA ⟨n, g⟩ args
theorem argsE_eq (l : List Operand) : argsE n g ⟨l⟩ = l.mapM (ev n g) := rfl
theorem wpD_makeFunc (x : FuncId) (fs cs : Array Operand) : wpD P h pr f n g H ⟨d, .makeFunc (.func x) fs cs, ty, ps, af, gd⟩ k =
    Bd (argsE n g fs) (fun fs => Bd (argsE n g cs) (fun cs => k (putO g d (.func x fs cs)) H) .mk) .mk := by
  simp only [wpD, isCall, opA, bd_eq, bd_bind, bd_map, argsE]
theorem wpD_makeMap (t : TypeId) : wpD P h pr f n g H ⟨d, .makeMap t none, ty, ps, af, gd⟩ k =
    k (putO g d (.map H.next)) (H.new (.map [])) := by
  simp only [wpD, isCall, opA, bd_eq, bdn_some]
theorem wpD_slice (t : TypeId) (x : Operand) (lo hi mx : Option Operand) : wpD P h pr f n g H ⟨d, .slice t x lo hi mx, ty, ps, af, gd⟩ k =
    Bd (ev n g x) (fun v => Bd (optA ⟨n, g⟩ lo) (fun lo => Bd (optA ⟨n, g⟩ hi) (fun hi => Bd (optA ⟨n, g⟩ mx) (fun mx =>
      Bd (sliceA P t v lo hi mx) (fun v => k (putO g d v) H) .mk) .mk) .mk) .mk) .mk := by
  simp only [wpD, isCall, opA, bd_eq, bd_bind, bd_map, ev]
theorem optA_none : optA ⟨n, g⟩ none = some none := rfl
theorem optA_some (x : Operand) : optA ⟨n, g⟩ (some x) = (ev n g x).map some := rfl
theorem wpD_fieldAddr (t : TypeId) (x : Operand) (i : Nat) : wpD P h pr f n g H ⟨d, .fieldAddr t x i, ty, ps, af, gd⟩ k =
    Bd (ev n g x) (fun v => Bd (fieldAddrA P t v i) (fun v => k (putO g d v) H) .mk) .mk := by
  simp only [wpD, isCall, opA, bd_eq, bd_bind, bd_map, ev]
theorem wpD_field (t : TypeId) (x : Operand) (i : Nat) : wpD P h pr f n g H ⟨d, .field t x i, ty, ps, af, gd⟩ k =
    Bd (ev n g x) (fun v => Bd (fieldA P t v i) (fun v => k (putO g d v) H) .mk) .mk := by
  simp only [wpD, isCall, opA, bd_eq, bd_bind, bd_map, ev]
theorem wpD_indexAddr (t : TypeId) (x ix : Operand) : wpD P h pr f n g H ⟨d, .indexAddr t x ix, ty, ps, af, gd⟩ k =
    Bd (ev n g x) (fun v => Bd (ev n g ix) (fun iv => Bd (natOf iv) (fun i => Bd (indexAddrA P t v i) (fun v => k (putO g d v) H) .mk) .mk) .mk) .mk := by
  simp only [wpD, isCall, opA, bd_eq, bd_bind, bd_map, ev]
theorem wpD_index (t : TypeId) (x ix : Operand) : wpD P h pr f n g H ⟨d, .index t x ix, ty, ps, af, gd⟩ k =
    Bd (ev n g x) (fun v => Bd (ev n g ix) (fun iv => Bd (natOf iv) (fun i => Bd (indexA P t v i) (fun v => k (putO g d v) H) .mk) .mk) .mk) .mk := by
  simp only [wpD, isCall, opA, bd_eq, bd_bind, bd_map, ev]
theorem wpD_lookup (t : TypeId) (x ix : Operand) (ok : Bool) : wpD P h pr f n g H ⟨d, .lookup t x ix ok, ty, ps, af, gd⟩ k =
    Bd (ev n g x) (fun v => Bd (ev n g ix) (fun kv => Bd (lookupA P t v kv ok H) (fun v => k (putO g d v) H) .mk) .mk) .mk := by
  simp only [wpD, isCall, opA, bd_eq, bd_bind, bd_map, ev]
theorem wpD_mapUpdate (t : TypeId) (m x y : Operand) : wpD P h pr f n g H ⟨d, .mapUpdate t m x y, ty, ps, af, gd⟩ k =
    Bd (ev n g m) (fun m => Bd (ev n g x) (fun kv => Bd (ev n g y) (fun v => Bd (mapUpdateA P t m kv v H) (fun H1 => k (putO g d (.tuple [])) H1) .mk) .mk) .mk) .mk := by
  simp only [wpD, isCall, opA, bd_eq, bd_bind, bd_map, ev]
theorem wpD_typeAssert (x : Operand) (s t : TypeId) (ok : Bool) : wpD P h pr f n g H ⟨d, .typeAssert x s t ok, ty, ps, af, gd⟩ k =
    Bd (ev n g x) (fun v => Bd (typeAssertA P v t ok) (fun v => k (putO g d v) H) .mk) .mk := by
  simp only [wpD, isCall, opA, bd_eq, bd_bind, bd_map, ev]
def extractA (v : AV) (i : Nat) : Option AV := match v with
  | .tuple vs => vs[i]?
  | _ => none
theorem extractA_tuple (vs : List AV) (i : Nat) : extractA (.tuple vs) i = vs[i]? := rfl
theorem wpD_extract (x : Operand) (i : Nat) : wpD P h pr f n g H ⟨d, .extract x i, ty, ps, af, gd⟩ k =
    Bd (ev n g x) (fun v => Bd (extractA v i) (fun v => k (putO g d v) H) .mk) .mk := by
  simp only [wpD, isCall, opA, bd_eq, bd_bind, bd_map, ev]
  congr
  funext v
  cases v <;> simp [extractA, bd_map, BdN]
  constructor
  · rintro ⟨_, _, ⟨a, h1, rfl, rfl⟩, h2⟩
    exact ⟨a, h1, h2⟩
  · rintro ⟨a, h1, h2⟩
    exact ⟨_, _, ⟨a, h1, rfl, rfl⟩, h2⟩
def rangeA (t : TypeId) (v : AV) (H : Heap) : Option (AV × Heap) := match v, P.underlying t with
  | .str s, some .string => some (.iter H.next, H.new (.iter s 0))
  | _, _ => none
theorem wpD_range (t : TypeId) (x : Operand) : wpD P h pr f n g H ⟨d, .range t x, ty, ps, af, gd⟩ k =
    Bd (ev n g x) (fun v => Bd (rangeA P t v H) (fun r => k (putO g d r.1) r.2) .mk) .mk := by
  simp only [wpD, isCall, opA, bd_eq, bd_bind, bd_map, ev]
  rfl
theorem wpD_next (x : Operand) : wpD P h pr f n g H ⟨d, .next x true, ty, ps, af, gd⟩ k =
    Bd (ev n g x) (fun v => Bd (nextA v H) (fun r => k (putO g d r.1) r.2) .mk) .mk := by
  simp only [wpD, isCall, opA, bd_eq, bd_bind, bd_map, ev]
theorem wpD_build (t : TypeId) (ps' : Array (Nat × Operand)) : wpD P h pr f n g H ⟨d, .build t ps', ty, ps, af, gd⟩ k =
    Bd (partsA ⟨n, g⟩ ps') (fun vs => Bd (buildA P t vs) (fun v => k (putO g d v) H) .mk) .mk := by
  simp only [wpD, isCall, opA, bd_eq, bd_bind, bd_map, ev]
theorem wpD_buildSlice (t : TypeId) (l : Nat) (ps' : Array (Nat × Operand)) : wpD P h pr f n g H ⟨d, .buildSlice t l ps', ty, ps, af, gd⟩ k =
    Bd (partsA ⟨n, g⟩ ps') (fun vs => Bd (buildSliceA P (h.heap f (d.getD 0)) t l vs H) (fun r => k (putO g d r.1) r.2) .mk) .mk := by
  simp only [wpD, isCall, opA, bd_eq, bd_bind, bd_map, ev]
def partsE (n : Nat) (g : Regs) : List (Nat × Operand) → Option (List (Nat × AV))
  | [] => some []
  | (i, x) :: r => (ev n g x).bind fun v => (partsE n g r).map ((i, v) :: ·)
theorem partsA_eq (l : List (Nat × Operand)) : partsA ⟨n, g⟩ ⟨l⟩ = partsE n g l := by
  have H : ∀ l : List (Nat × Operand), (l.mapM fun p => (AAct.eval ⟨n, g⟩ p.2).map (p.1, ·)) = partsE n g l := by
    intro l
    induction l with
    | nil => rfl
    | cons p r ih =>
      simp only [List.mapM_cons, ih, partsE, ev]
      cases AAct.eval ⟨n, g⟩ p.2 with
      | none => rfl
      | some v => cases partsE n g r <;> rfl
  exact H l
theorem wpD_builtin (b : Builtin) (args : Array Operand) (ts : Array TypeId) : wpD P h pr f n g H ⟨d, .call ⟨.builtin b, args, ts⟩, ty, ps, af, gd⟩ k =
    Bd (argsE n g args) (fun vs => Bd (builtinA P (h.heap f (d.getD 0)) b ts.toList ty vs H) (fun r => k (putO g d r.1) r.2) .mk) .mk := by
  simp only [wpD, isCall, opA, bd_eq, bd_bind, argsE]
/-- A call: what it answers is asked for. -/
def wpCall (P : Program) (h : Hints) (pr : Prims) (gf : FuncId) (args : List AV) (H : Heap) (K : AV → Heap → Prop) (_ : Tok K) : Prop := ∃ v H', Runs P h pr gf args H v H' ∧ K v H'
theorem wpD_call (gf : FuncId) (args : Array Operand) (ts : Array TypeId) : wpD P h pr f n g H ⟨d, .call ⟨.value (.func gf), args, ts⟩, ty, ps, af, gd⟩ k =
    Bd (argsE n g args) (fun vs => wpCall P h pr gf vs H (fun v H' => k (putO g d v) H') .mk) .mk := by
  simp only [wpD, isCall, calleeA, bd_eq, bd_bind, argsE, AAct.eval, ofV, ofS0, bdn_some, List.nil_append, List.append_nil, wpCall]
def calleeV (v : AV) (vs : List AV) : Option (FuncId × List AV) := match v with
  | .func g first captured => some (g, first ++ vs ++ captured)
  | _ => none
theorem wpD_callv (t : Tmp) (args : Array Operand) (ts : Array TypeId) : wpD P h pr f n g H ⟨d, .call ⟨.value (.tmp t), args, ts⟩, ty, ps, af, gd⟩ k =
    Bd (ev n g (.tmp t)) (fun v => Bd (argsE n g args) (fun vs => Bd (calleeV v vs) (fun ga => wpCall P h pr ga.1 ga.2 H (fun v H' => k (putO g d v) H') .mk) .mk) .mk) .mk := by
  simp only [wpD, isCall, calleeA, bd_eq, bd_bind, argsE, ev, wpCall]
  rfl

theorem wpC_skip (Q : Post) : wpC P h pr f n .skip g H Q = Q .normal g H := rfl
theorem wpC_label (l : Nat) (Q : Post) : wpC P h pr f n (.label l) g H Q = Q .normal g H := rfl
theorem wpC_seq (x y : Code) (Q : Post) : wpC P h pr f n (.seq x y) g H Q = wpC P h pr f n x g H (seqK (fun g H => wpC P h pr f n y g H Q) Q) := rfl
theorem wpC_cond (c : Operand) (x y : Code) (Q : Post) : wpC P h pr f n (.cond c x y) g H Q =
    Bd ((ev n g c).bind boolOf) (fun b => Gd b (wpC P h pr f n x g H Q) (wpC P h pr f n y g H Q) .mk .mk) .mk := rfl
theorem wpC_block (i : Nat) (c : Code) (Q : Post) : wpC P h pr f n (.block i c) g H Q = wpC P h pr f n c g H (blockK i Q) := rfl
theorem wpC_exit (i : Nat) (Q : Post) : wpC P h pr f n (.exit i) g H Q = Q (.exit i) g H := rfl
theorem wpC_goto (i : Nat) (Q : Post) : wpC P h pr f n (.goto i) g H Q = Q (.goto i) g H := rfl
theorem wpC_ret (Q : Post) : wpC P h pr f n .ret g H Q = Q .ret g H := rfl
theorem wpC_region (i : Nat) (l : List Oper) (Q : Post) : wpC P h pr f n (.region i ⟨l⟩ false) g H Q = wpL P h pr f n l l g H fun g H => Q .normal g H := rfl
theorem wpC_draw (i : Nat) (l : Array Oper) (Q : Post) : wpC P h pr f n (.region i l true) g H Q = wpT P h pr f n (.region i l true) g H Q .mk .mk := rfl
theorem wpC_loop (c : Code) (Q : Post) : wpC P h pr f n (.loop c) g H Q = wpT P h pr f n (.loop c) g H Q .mk .mk := rfl
theorem wpC_scope (c : Code) (Q : Post) : wpC P h pr f n (.scope c) g H Q = wpT P h pr f n (.scope c) g H Q .mk .mk := rfl
end

/- VALUES -/
theorem w64 {n : Int} (h0 : -9223372036854775808 ≤ n) (h1 : n ≤ 9223372036854775807) : IntKind.i64.wrap n = n := by
  have : IntKind.i64.wrap n = if n % 18446744073709551616 ≥ 9223372036854775808 then n % 18446744073709551616 - 18446744073709551616 else n % 18446744073709551616 := by
    simp [IntKind.wrap, IntKind.signed, IntKind.bits]
  rw [this]; split <;> omega
theorem w32 {n : Int} (h0 : -2147483648 ≤ n) (h1 : n ≤ 2147483647) : IntKind.i32.wrap n = n := by
  have : IntKind.i32.wrap n = if n % 4294967296 ≥ 2147483648 then n % 4294967296 - 4294967296 else n % 4294967296 := by
    simp [IntKind.wrap, IntKind.signed, IntKind.bits]
  rw [this]; split <;> omega
theorem w8 {n : Int} (h0 : 0 ≤ n) (h1 : n ≤ 255) : IntKind.u8.wrap n = n := by
  have : IntKind.u8.wrap n = n % 256 := by
    simp [IntKind.wrap, IntKind.signed, IntKind.bits]
  rw [this]; omega

theorem resE_one (P : Program) (t n : Nat) (g : Regs) (H : Heap) (ht : t < n) : resE P [.tmp t] n g H = some (g t) := by
  simp [resE, resultA, AAct.eval, ht]
theorem resE_two (P : Program) (t u n : Nat) (g : Regs) (H : Heap) (ht : t < n) (hu : u < n) : resE P [.tmp t, .tmp u] n g H = some (.tuple [g t, g u]) := by
  simp [resE, resultA, AAct.eval, ht, hu]

theorem bytes_toList (s : ByteArray) : s.toList = s.data.toList := ByteArray.toList_eq s
theorem moveA_false (H : Heap) (v : AV) : moveA false H v = some (v, H) := by
  cases v <;> simp [moveA]
theorem moveA_int (b : Bool) (H : Heap) (k : IntKind) (x : Int) : moveA b H (.int k x) = some (.int k x, H) := rfl
theorem moveA_bool (b : Bool) (H : Heap) (x : Bool) : moveA b H (.bool x) = some (.bool x, H) := rfl
theorem moveA_str (b : Bool) (H : Heap) (x : ByteArray) : moveA b H (.str x) = some (.str x, H) := rfl
theorem pickA_true (x y : Option AV) : pickA (.bool true) x y = x := rfl
theorem pickA_false (x y : Option AV) : pickA (.bool false) x y = y := rfl
theorem natOf_int (k : IntKind) (x : Int) (hx : 0 ≤ x) : natOf (.int k x) = some x.toNat := by simp [natOf, hx]
theorem natOf_nat (k : IntKind) (x : Nat) : natOf (.int k (x : Int)) = some x := by simp [natOf]

section
variable {P : Program} {t : TypeId}
theorem lenA_str (ht : P.underlying t = some .string) (s : ByteArray) (H : Heap) : lenA P t (.str s) H = some (.int .i64 s.size) := by
  simp [lenA, ht]
theorem lenA_slice {e : TypeId} (ht : P.underlying t = some (.slice e)) (r : Right) (k : Nat) (cs : List AV) (n : Nat) (H : Heap) :
    lenA P t (.slice r k cs n) H = some (.int .i64 n) := by
  simp [lenA, ht]
theorem lenA_nil {e : TypeId} (ht : P.underlying t = some (.slice e)) (H : Heap) : lenA P t .nilSlice H = some (.int .i64 0) := by
  simp [lenA, ht]
theorem builtinA_len (b : Bool) (ty : TypeId) (x : AV) (H : Heap) : builtinA P b .len [t] ty [x] H = (lenA P t x H).map (·, H) := rfl
theorem builtinA_append (b : Bool) (ty t' : TypeId) (s x : AV) (H : Heap) : builtinA P b .append [t, t'] ty [s, x] H = appendA P b t t' s x H := rfl

section
variable (ox oy : Operand) (k : IntKind) (x y : Int)
theorem binOpA_add : binOpA P .add t ox oy (.int k x) (.int k y) = some (.int k (k.wrap (x + y))) := by cases k <;> rfl
theorem binOpA_sub : binOpA P .sub t ox oy (.int k x) (.int k y) = some (.int k (k.wrap (x - y))) := by cases k <;> rfl
theorem binOpA_mul : binOpA P .mul t ox oy (.int k x) (.int k y) = some (.int k (k.wrap (x * y))) := by cases k <;> rfl
theorem binOpA_quo (hy : y ≠ 0) : binOpA P .quo t ox oy (.int k x) (.int k y) = some (.int k (k.wrap (x.tdiv y))) := by
  have e : Go.binOp .quo t (.int k x) (.int k y) = Op.intDiv .quo k x y := by cases k <;> rfl
  show ((pureAt P (Go.binOp .quo t (.int k x) (.int k y))).bind ofV) = _
  rw [e, Op.intDiv, if_neg hy]; rfl
theorem binOpA_rem (hy : y ≠ 0) : binOpA P .rem t ox oy (.int k x) (.int k y) = some (.int k (x.tmod y)) := by
  have e : Go.binOp .rem t (.int k x) (.int k y) = Op.intDiv .rem k x y := by cases k <;> rfl
  show ((pureAt P (Go.binOp .rem t (.int k x) (.int k y))).bind ofV) = _
  rw [e, Op.intDiv, if_neg hy]; rfl
theorem binOpA_lss : binOpA P .lss t ox oy (.int k x) (.int k y) = some (.bool (decide (x < y))) := by cases k <;> rfl
theorem binOpA_leq : binOpA P .leq t ox oy (.int k x) (.int k y) = some (.bool (decide (x ≤ y))) := by cases k <;> rfl
theorem binOpA_gtr : binOpA P .gtr t ox oy (.int k x) (.int k y) = some (.bool (decide (y < x))) := by cases k <;> rfl
theorem binOpA_geq : binOpA P .geq t ox oy (.int k x) (.int k y) = some (.bool (decide (y ≤ x))) := by cases k <;> rfl
theorem binOpA_eql : binOpA P .eql t ox oy (.int k x) (.int k y) = some (.bool (x == y)) := by cases k <;> rfl
theorem binOpA_neq : binOpA P .neq t ox oy (.int k x) (.int k y) = some (.bool (x != y)) := by cases k <;> rfl
theorem unOpA_not (b : Bool) : unOpA P .not (.bool b) = some (.bool (!b)) := rfl
theorem binOpA_seql (a b : ByteArray) : binOpA P .eql t ox oy (.str a) (.str b) = some (.bool (a.data.toList == b.data.toList)) := by
  rw [← bytes_toList, ← bytes_toList]; rfl
theorem binOpA_sneq (a b : ByteArray) : binOpA P .neq t ox oy (.str a) (.str b) = some (.bool (!(a.data.toList == b.data.toList))) := by
  rw [← bytes_toList, ← bytes_toList]; rfl
theorem binOpA_sadd (a b : ByteArray) (hl : a.size + b.size ≤ 9223372036854775807) : binOpA P .add t ox oy (.str a) (.str b) = some (.str (a ++ b)) := by
  have e : Op.stringOp .add a b = pure (.string (a ++ b)) := by
    unfold Op.stringOp
    have : ¬ ((a.size + b.size : Nat) : Int) > IntKind.i64.max := by
      have : IntKind.i64.max = 9223372036854775807 := by decide
      omega
    simp only [this, if_false]
  show ((pureAt P (Op.stringOp .add a b)).bind ofV) = _
  rw [e]; rfl
end

theorem indexA_str (ht : P.underlying t = some .string) (s : ByteArray) (i : Nat) (hi : i < s.size) : indexA P t (.str s) i = some (.int .u8 (s[i]).toNat) := by
  have : s.data.toList[i]? = some s[i] := by
    have h2 : i < s.data.toList.length := by
      rw [Array.length_toList]; exact hi
    rw [List.getElem?_eq_getElem h2]
    rfl
  simp [indexA, ht, this]
theorem sliceA_str (ht : P.underlying t = some .string) (s : ByteArray) (lo hi : Option AV) (l r : Nat) (hl : boundA 0 lo = some l) (hh : boundA s.size hi = some r)
    (h1 : l ≤ r) (h2 : r ≤ s.size) : sliceA P t (.str s) lo hi none = some (.str (s.extract l r)) := by
  simp [sliceA, ht, hl, hh, h1, h2]
theorem boundA_none (d : Nat) : boundA d none = some d := rfl
theorem boundA_int (d : Nat) (k : IntKind) (x : Int) (hx : 0 ≤ x) : boundA d (some (.int k x)) = some x.toNat := by simp [boundA, natOf, hx]
theorem indexAddrA_slice {e : TypeId} {k : Nat} (ht : P.underlying t = some (.slice e)) (hk : sizeOf? P e = some k) (r : Right) (cs : List AV) (n i : Nat) (hi : i < n) :
    indexAddrA P t (.slice r k cs n) i = some (.rptr (cs.drop (i * k))) := by
  simp [indexAddrA, elemOf?, ht, hk, hi]
theorem loadA_rptr (H : Heap) (cs : List AV) : loadA P t H (.rptr cs) = takeVar P t cs := rfl
theorem takeVar_one (h1 : isAgg? P t = some false) {m : Nat} (h2 : sizeOf? P t = some m) (cs : List AV) : takeVar P t cs = cs.head? := by
  simp [takeVar, h1, h2]
theorem takeVar_agg (h1 : isAgg? P t = some true) {m : Nat} (h2 : sizeOf? P t = some m) (cs : List AV) (hm : m ≤ cs.length) : takeVar P t cs = some (.agg (cs.take m)) := by
  simp [takeVar, h1, h2, hm]
theorem convertA_int {s : TypeId} {k : IntKind} (hk : convKind P s t = some 0) (hs : (P.underlying s).isSome = true) (ht : P.underlying t = some (.int k)) (k' : IntKind) (x : Int) (H : Heap) :
    convertA P s t (.int k' x) H = some (.int k (k.wrap x)) := by
  obtain ⟨u, hu⟩ := Option.isSome_iff_exists.mp hs
  have e : pureAt P (Go.convert s t (.int k' x)) = some (.int k (k.wrap x)) := by
    show pureAt P ((Go.underlying s).bind _) = _
    simp only [Go.underlying, Go.program, Bind.bind, Sem.bind, pureAt, hu, ht, Pure.pure]
    cases u <;> simp [Conv.intToInt, pureAt, Pure.pure]
  simp only [convertA, hk, toV, toS0, e]
  rfl
end
end Go.AM
