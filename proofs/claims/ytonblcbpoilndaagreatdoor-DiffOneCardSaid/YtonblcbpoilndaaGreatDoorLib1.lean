/- One plain sentence: small laws on memory and on the forms of the weakest preconditions. Conditions: none. -/
import Derived.Test.YtonblcbpoilndaaGreatDoorEng9
import Derived.Below
set_option linter.all false
set_option linter.unusedSimpArgs false
set_option linter.unusedVariables false
set_option linter.unusedSectionVars false
namespace Go.Eng
open Go

/-! ### Memory, block by block -/

def cellO (o : Option Obj) (i : Nat) : Option Value := match o with | some (.cells c _ _) => c[i]? | _ => none
def frO (o : Option Obj) (i : Nat) : Bool := match o with | some (.cells _ _ (lo, hi)) => decide (lo ≤ i) && decide (i < hi) | _ => false
def setO (o : Option Obj) (i : Nat) (v : Value) : Option Obj := match o with | some (.cells c t f) => some (.cells (c.setIfInBounds i v) t f) | o => o
theorem cellO_some (c : Array Value) (t : TypeId) (f : Nat × Nat) (i : Nat) : cellO (some (.cells c t f)) i = c[i]? := rfl
theorem frO_some (c : Array Value) (t : TypeId) (lo hi : Nat) (i : Nat) : frO (some (.cells c t (lo, hi))) i = (decide (lo ≤ i) && decide (i < hi)) := rfl
theorem frO_zero (c : Array Value) (t : TypeId) (i : Nat) : frO (some (.cells c t (0, 0))) i = false := by simp [frO]
theorem setO_some (c : Array Value) (t : TypeId) (f : Nat × Nat) (i : Nat) (v : Value) : setO (some (.cells c t f)) i v = some (.cells (c.setIfInBounds i v) t f) := rfl

theorem cell_eq (w : World) (b o : Nat) : w.cell? ⟨b, o, none⟩ = cellO w.heap[b]? o := by
  unfold World.cell? cellO
  cases w.heap[b]? with
  | none => rfl
  | some x => cases x <;> rfl
theorem frozen_eq (w : World) (b o : Nat) : w.frozen? ⟨b, o, none⟩ = frO w.heap[b]? o := by
  unfold World.frozen? frO
  cases w.heap[b]? with
  | none => rfl
  | some x => cases x <;> rfl
theorem heap_set_same (w : World) (b o : Nat) (v : Value) : (w.setCell ⟨b, o, none⟩ v).heap[b]? = setO w.heap[b]? o v := by
  unfold World.setCell setO
  simp only [Array.getElem?_modify, if_true]
  cases w.heap[b]? with
  | none => rfl
  | some x => cases x <;> simp
theorem heap_set_other (w : World) (b o k : Nat) (v : Value) (h : k ≠ b) : (w.setCell ⟨b, o, none⟩ v).heap[k]? = w.heap[k]? := by
  unfold World.setCell
  simp only [Array.getElem?_modify]
  rw [if_neg (Ne.symm h)]
theorem size_set (w : World) (a : Addr) (v : Value) : (w.setCell a v).heap.size = w.heap.size := by simp
theorem heap_anew (w : World) (o : Obj) (k : Nat) (h : k = w.heap.size) : (w.alloc o).heap[k]? = some o := by subst h; show (w.heap.push o)[w.heap.size]? = _; simp
theorem heap_aold (w : World) (o : Obj) (k : Nat) (h : k ≠ w.heap.size) : (w.alloc o).heap[k]? = w.heap[k]? := by
  show (w.heap.push o)[k]? = _
  rw [Array.getElem?_push, if_neg h]
theorem size_alloc (w : World) (o : Obj) : (w.alloc o).heap.size = w.heap.size + 1 := by simp
theorem heap_drew (w : World) (k : Nat) : w.drew.heap[k]? = w.heap[k]? := rfl
theorem size_drew (w : World) : w.drew.heap.size = w.heap.size := rfl
theorem add_mk (b o n : Nat) : (⟨b, o, none⟩ : Addr).add n = ⟨b, o + n, none⟩ := by
  unfold Addr.add
  split
  · rename_i h; subst h; rfl
  · rfl

/-! ### What a call may turn -/

/-- w' is w with new blocks, and with the blocks of S turned. -/
structure Chg (S : Nat → Prop) (w w' : World) : Prop where
  os : w'.os = w.os
  tape : w'.tape = w.tape
  output : w'.output = w.output
  size : w.heap.size ≤ w'.heap.size
  heap : ∀ k, k < w.heap.size → ¬ S k → w'.heap[k]? = w.heap[k]?

/-- new blocks alone -/
abbrev Ext := Chg (fun _ => False)

theorem Chg.refl (S : Nat → Prop) (w : World) : Chg S w w := ⟨rfl, rfl, rfl, Nat.le_refl _, fun _ _ _ => rfl⟩
theorem Chg.trans {S : Nat → Prop} {w w1 w2 : World} (h1 : Chg S w w1) (h2 : Chg S w1 w2) : Chg S w w2 :=
  ⟨h2.os.trans h1.os, h2.tape.trans h1.tape, h2.output.trans h1.output, Nat.le_trans h1.size h2.size, fun k hk hs => (h2.heap k (Nat.lt_of_lt_of_le hk h1.size) hs).trans (h1.heap k hk hs)⟩
theorem Chg.mono {S T : Nat → Prop} {w w' : World} (h : Chg S w w') (hs : ∀ k, k < w.heap.size → S k → T k) : Chg T w w' :=
  ⟨h.os, h.tape, h.output, h.size, fun k hk hn => h.heap k hk fun e => hn (hs k hk e)⟩
theorem Chg.of_ext {S : Nat → Prop} {w w' : World} (h : Ext w w') : Chg S w w' := h.mono fun _ _ e => e.elim
theorem Chg.drew {S : Nat → Prop} {w w' : World} (h : Chg S w w') : Chg S w w'.drew := ⟨h.os, h.tape, h.output, h.size, h.heap⟩
theorem Chg.alloc {S : Nat → Prop} {w w' : World} (h : Chg S w w') (o : Obj) : Chg S w (w'.alloc o) :=
  ⟨h.os, h.tape, h.output, by rw [size_alloc]; exact Nat.le_succ_of_le h.size, fun k hk hs => by rw [heap_aold _ _ _ (by have := h.size; omega)]; exact h.heap k hk hs⟩
theorem Chg.set {S : Nat → Prop} {w w' : World} (h : Chg S w w') {b o : Nat} (hb : S b ∨ w.heap.size ≤ b) (v : Value) : Chg S w (w'.setCell ⟨b, o, none⟩ v) :=
  ⟨h.os, h.tape, h.output, by rw [size_set]; exact h.size, fun k hk hs => by
    have hne : k ≠ b := fun e => by
      subst e
      rcases hb with hb | hb
      · exact hs hb
      · omega
    rw [heap_set_other _ _ _ _ _ hne]
    exact h.heap k hk hs⟩
/-- what was made by the way may be turned by the way -/
theorem Chg.then {S T : Nat → Prop} {w w1 w2 : World} (h1 : Chg S w w1) (h2 : Chg T w1 w2) (hT : ∀ k, k < w.heap.size → T k → S k) : Chg S w w2 :=
  ⟨h2.os.trans h1.os, h2.tape.trans h1.tape, h2.output.trans h1.output, Nat.le_trans h1.size h2.size, fun k hk hs => (h2.heap k (Nat.lt_of_lt_of_le hk h1.size) fun e => hs (hT k hk e)).trans (h1.heap k hk hs)⟩
theorem Chg.below {w w' : World} (h : Ext w w') : RowKit.Below w.heap.size w w' := ⟨h.os, h.tape, h.output, h.size, fun k hk => h.heap k hk id⟩
theorem Chg.of_below {w w' : World} (h : RowKit.Below w.heap.size w w') : Ext w w' := ⟨h.os, h.tape, h.output, h.size, fun k hk _ => h.block k hk⟩

/-! ### Values -/

abbrev str (l : List UInt8) : Value := .string (ofL l)
abbrev i64 (n : Int) : Value := .int .i64 n
theorem str_inj {a b : List UInt8} : str a = str b ↔ a = b := by simp [str, ofL_inj]

theorem wrap_id {n : Int} (h1 : -9223372036854775808 ≤ n) (h2 : n < 9223372036854775808) : IntKind.i64.wrap n = n := by
  have e1 : (2 : Int) ^ 64 = 18446744073709551616 := by decide
  have e2 : (2 : Int) ^ (64 - 1) = 9223372036854775808 := by decide
  simp only [IntKind.wrap, IntKind.bits, IntKind.signed, Bool.true_and, e1, e2]
  by_cases h : n % 18446744073709551616 ≥ 9223372036854775808
  · rw [if_pos (by simpa using h)]; omega
  · rw [if_neg (by simpa using h)]; omega

/-! ### The forms -/

theorem condW_bool (b : Bool) (A B : Prop) : condW (.bool b) A B ↔ (b = true → A) ∧ (b = false → B) := Iff.rfl
theorem condW_true (A B : Prop) : condW (.bool true) A B ↔ A := by simp [condW]
theorem condW_false (A B : Prop) : condW (.bool false) A B ↔ B := by simp [condW]
theorem condW_dec (p : Prop) [Decidable p] (A B : Prop) : condW (.bool (decide p)) A B ↔ (p → A) ∧ (¬ p → B) := by simp [condW]
theorem pick_true (t : Bool) (b : Value) (K : Value → Prop) : pickW (.bool t) (.bool true) b K ↔ K (bif t then .bool true else b) := Iff.rfl
theorem pick_or (s t : Bool) (K : Value → Prop) : pickW (.bool s) (.bool true) (.bool t) K ↔ K (.bool (s || t)) := by cases s <;> exact Iff.rfl
theorem pick_and (s t : Bool) (K : Value → Prop) : pickW (.bool s) (.bool t) (.bool false) K ↔ K (.bool (s && t)) := by cases s <;> exact Iff.rfl
theorem pick_t (a b : Value) (K : Value → Prop) : pickW (.bool true) a b K ↔ K a := Iff.rfl
theorem pick_f (a b : Value) (K : Value → Prop) : pickW (.bool false) a b K ↔ K b := Iff.rfl

section forms
variable (k : IntKind) (a b : Int) (s t : ByteArray) (x y : Value) (ad : Addr) (w : World) (K : Value → Prop) (KE : Value → World → Prop) (KW : World → Prop)
theorem bin_add : binW .add (.int k a) (.int k b) K ↔ K (.int k (k.wrap (a + b))) := by simp [binW]
theorem bin_sub : binW .sub (.int k a) (.int k b) K ↔ K (.int k (k.wrap (a - b))) := by simp [binW]
theorem bin_mul : binW .mul (.int k a) (.int k b) K ↔ K (.int k (k.wrap (a * b))) := by simp [binW]
theorem bin_quo : binW .quo (.int k a) (.int k b) K ↔ b ≠ 0 ∧ K (.int k (k.wrap (a.tdiv b))) := by simp [binW]
theorem bin_rem : binW .rem (.int k a) (.int k b) K ↔ b ≠ 0 ∧ K (.int k (a.tmod b)) := by simp [binW]
theorem bin_eql : binW .eql (.int k a) (.int k b) K ↔ K (.bool (decide (a = b))) := by simp [binW]
theorem bin_neq : binW .neq (.int k a) (.int k b) K ↔ K (.bool (decide (a ≠ b))) := by simp [binW]
theorem bin_lss : binW .lss (.int k a) (.int k b) K ↔ K (.bool (decide (a < b))) := by simp [binW]
theorem bin_leq : binW .leq (.int k a) (.int k b) K ↔ K (.bool (decide (a ≤ b))) := by simp [binW]
theorem bin_gtr : binW .gtr (.int k a) (.int k b) K ↔ K (.bool (decide (b < a))) := by simp [binW]
theorem bin_geq : binW .geq (.int k a) (.int k b) K ↔ K (.bool (decide (b ≤ a))) := by simp [binW]
theorem bin_shl : binW .shl (.int k a) (.int k b) K ↔ 0 ≤ b ∧ K (.int k (k.wrap (a * 2 ^ min b.toNat k.bits))) := by simp [binW]
theorem bin_shr : binW .shr (.int k a) (.int k b) K ↔ 0 ≤ b ∧ K (.int k (a.fdiv (2 ^ min b.toNat k.bits))) := by simp [binW]
theorem bin_and : binW .and (.int k a) (.int k b) K ↔ K (.int k (k.wrap (BitVec.ofInt k.bits a &&& BitVec.ofInt k.bits b).toNat)) := by simp [binW]
theorem bin_or : binW .or (.int k a) (.int k b) K ↔ K (.int k (k.wrap (BitVec.ofInt k.bits a ||| BitVec.ofInt k.bits b).toNat)) := by simp [binW]
theorem bin_xor : binW .xor (.int k a) (.int k b) K ↔ K (.int k (k.wrap (BitVec.ofInt k.bits a ^^^ BitVec.ofInt k.bits b).toNat)) := by simp [binW]
theorem ofL_app (l m : List UInt8) : ofL l ++ ofL m = ofL (l ++ m) := by
  apply ByteArray.ext; simp [ofL, ByteArray.data_append]
theorem bin_sadd (l m : List UInt8) : binW .add (.string (ofL l)) (.string (ofL m)) K ↔ ((l.length + m.length : Nat) : Int) ≤ IntKind.i64.max ∧ K (.string (ofL (l ++ m))) := by simp [binW, ofL_size, ofL_app]
theorem bin_seq (l m : List UInt8) : binW .eql (.string (ofL l)) (.string (ofL m)) K ↔ K (.bool (decide (l = m))) := by simp [binW, ofL_data]
theorem bin_sne (l m : List UInt8) : binW .neq (.string (ofL l)) (.string (ofL m)) K ↔ K (.bool (decide (l ≠ m))) := by simp [binW, ofL_data]
theorem bin_slt (l m : List UInt8) : binW .lss (.string (ofL l)) (.string (ofL m)) K ↔ K (.bool (Op.bytesLess l m)) := by simp [binW, ofL_data]
theorem bin_sgt (l m : List UInt8) : binW .gtr (.string (ofL l)) (.string (ofL m)) K ↔ K (.bool (!(Op.bytesLess l m || decide (l = m)))) := by simp [binW, ofL_data]
theorem bin_sge (l m : List UInt8) : binW .geq (.string (ofL l)) (.string (ofL m)) K ↔ K (.bool (!Op.bytesLess l m)) := by simp [binW, ofL_data]
theorem bin_sle (l m : List UInt8) : binW .leq (.string (ofL l)) (.string (ofL m)) K ↔ K (.bool (Op.bytesLess l m || decide (l = m))) := by simp [binW, ofL_data]
theorem nil_ptr : nilW (.pointer (some ad)) K ↔ K (.pointer (some ad)) := Iff.rfl
theorem fld_ptr (off : Nat) : fldW off (.pointer (some ad)) K ↔ K (.pointer (some (ad.add off))) := Iff.rfl
theorem ld_one (n : Nat) : ldW false n (.pointer (some ad)) w K ↔ ∃ v, w.cell? ad = some v ∧ K v := Iff.rfl
theorem ld_agg (n : Nat) : ldW true n (.pointer (some ad)) w K ↔ ∃ l, cellsAt w ad 0 n = some l ∧ K (.agg l.toArray) := Iff.rfl
theorem st_int : stW 1 (.pointer (some ad)) (.int k a) w KW ↔ (w.cell? (ad.add 0)).isSome = true ∧ w.frozen? (ad.add 0) = false ∧ KW (w.setCell (ad.add 0) (.int k a)) := by simp [stW, stCells, Value.cells, one1]
theorem st_bool (c : Bool) : stW 1 (.pointer (some ad)) (.bool c) w KW ↔ (w.cell? (ad.add 0)).isSome = true ∧ w.frozen? (ad.add 0) = false ∧ KW (w.setCell (ad.add 0) (.bool c)) := by simp [stW, stCells, Value.cells, one1]
theorem st_str : stW 1 (.pointer (some ad)) (.string s) w KW ↔ (w.cell? (ad.add 0)).isSome = true ∧ w.frozen? (ad.add 0) = false ∧ KW (w.setCell (ad.add 0) (.string s)) := by simp [stW, stCells, Value.cells, one1]
theorem st_slice (p : Option Addr) (n m : Nat) : stW 1 (.pointer (some ad)) (.slice p n m) w KW ↔ (w.cell? (ad.add 0)).isSome = true ∧ w.frozen? (ad.add 0) = false ∧ KW (w.setCell (ad.add 0) (.slice p n m)) := by simp [stW, stCells, Value.cells, one1]
theorem st_ptr (p : Option Addr) : stW 1 (.pointer (some ad)) (.pointer p) w KW ↔ (w.cell? (ad.add 0)).isSome = true ∧ w.frozen? (ad.add 0) = false ∧ KW (w.setCell (ad.add 0) (.pointer p)) := by simp [stW, stCells, Value.cells, one1]
theorem st_map (p : Option Nat) : stW 1 (.pointer (some ad)) (.map p) w KW ↔ (w.cell? (ad.add 0)).isSome = true ∧ w.frozen? (ad.add 0) = false ∧ KW (w.setCell (ad.add 0) (.map p)) := by simp [stW, stCells, Value.cells, one1]
theorem st_agg (n : Nat) (l : List Value) : stW n (.pointer (some ad)) (.agg l.toArray) w KW ↔ l.length = n ∧ stCells ad l 0 w KW := by simp [stW, Value.cells]
theorem stc_nil (i : Nat) : stCells ad [] i w KW ↔ KW w := Iff.rfl
theorem stc_cons (v : Value) (r : List Value) (i : Nat) : stCells ad (v :: r) i w KW ↔ one1 v = true ∧ (w.cell? (ad.add i)).isSome = true ∧ w.frozen? (ad.add i) = false ∧ stCells ad r (i + 1) (w.setCell (ad.add i) v) KW := Iff.rfl
theorem one_int : one1 (.int k a) = true := rfl
theorem one_bool (c : Bool) : one1 (.bool c) = true := rfl
theorem one_str : one1 (.string s) = true := rfl
theorem one_slice (p : Option Addr) (n m : Nat) : one1 (.slice p n m) = true := rfl
theorem one_ptr (p : Option Addr) : one1 (.pointer p) = true := rfl
theorem one_map (p : Option Nat) : one1 (.map p) = true := rfl
theorem ext_tuple (i : Nat) (l : List Value) : extW i (.tuple l.toArray) K ↔ ∃ v, l[i]? = some v ∧ K v := by
  simp only [extW, List.getElem?_toArray]
  cases l[i]? <;> simp
theorem ixa_slice (size n c : Nat) : ixaW none size (.slice (some ad) n c) (.int k a) K ↔ 0 ≤ a ∧ a < n ∧ K (.pointer (some (ad.add (a.toNat * size)))) := Iff.rfl
theorem ixa_arr (m size : Nat) : ixaW (some m) size (.pointer (some ad)) (.int k a) K ↔ 0 ≤ a ∧ a < m ∧ K (.pointer (some (ad.add (a.toNat * size)))) := Iff.rfl
theorem ixs_str (l : List UInt8) : ixsW (.string (ofL l)) (.int k a) K ↔ 0 ≤ a ∧ ∃ c, l[a.toNat]? = some c ∧ K (.int .u8 c.toNat) := by simp [ixsW, ofL_data]
theorem lens_str (l : List UInt8) : lensW (.string (ofL l)) K ↔ K (.int .i64 l.length) := by simp [lensW, ofL_size]
theorem lenl_sl (p : Option Addr) (n c : Nat) : lenlW (.slice p n c) K ↔ K (.int .i64 n) := Iff.rfl
theorem un_not (c : Bool) : unW .not (.bool c) K ↔ K (.bool (!c)) := Iff.rfl
theorem un_neg : unW .neg (.int k a) K ↔ K (.int k (k.wrap (0 - a))) := Iff.rfl
theorem cvt_int (k' : IntKind) : cvtW k' (.int k a) K ↔ K (.int k' (k'.wrap a)) := Iff.rfl
theorem min_int : minW (.int k a) (.int k b) K ↔ K (.int k (if b < a then b else a)) := Iff.rfl
theorem max_int : maxW (.int k a) (.int k b) K ↔ K (.int k (if a < b then b else a)) := Iff.rfl
theorem alloc_go (T : TypeId) (z : List Value) : allocW T z w KE ↔ KE (.pointer (some ⟨w.heap.size, 0, none⟩)) (w.alloc (.cells z.toArray T)) := Iff.rfl
theorem box_agg (T : TypeId) (l : List Value) : boxW T (.agg l.toArray) w KE ↔ KE (.pointer (some ⟨w.heap.size, 0, none⟩)) (w.alloc (.cells l.toArray T)) := Iff.rfl
theorem box_int (T : TypeId) : boxW T (.int k a) w KE ↔ KE (.pointer (some ⟨w.heap.size, 0, none⟩)) (w.alloc (.cells #[(.int k a)] T)) := Iff.rfl
theorem box_bool (T : TypeId) (c : Bool) : boxW T (.bool c) w KE ↔ KE (.pointer (some ⟨w.heap.size, 0, none⟩)) (w.alloc (.cells #[(.bool c)] T)) := Iff.rfl
theorem box_str (T : TypeId) : boxW T (.string s) w KE ↔ KE (.pointer (some ⟨w.heap.size, 0, none⟩)) (w.alloc (.cells #[(.string s)] T)) := Iff.rfl
theorem box_slice (T : TypeId) (p : Option Addr) (n m : Nat) : boxW T (.slice p n m) w KE ↔ KE (.pointer (some ⟨w.heap.size, 0, none⟩)) (w.alloc (.cells #[(.slice p n m)] T)) := Iff.rfl
theorem box_ptr (T : TypeId) (p : Option Addr) : boxW T (.pointer p) w KE ↔ KE (.pointer (some ⟨w.heap.size, 0, none⟩)) (w.alloc (.cells #[(.pointer p)] T)) := Iff.rfl
theorem box_map (T : TypeId) (p : Option Nat) : boxW T (.map p) w KE ↔ KE (.pointer (some ⟨w.heap.size, 0, none⟩)) (w.alloc (.cells #[(.map p)] T)) := Iff.rfl
theorem bd_none (n m : Nat) (KN : Nat → Prop) : bdW none n m KN ↔ KN n := Iff.rfl
theorem bd_some (n m : Nat) (KN : Nat → Prop) : bdW (some (.int k a)) n m KN ↔ 0 ≤ a ∧ a ≤ m ∧ KN a.toNat := Iff.rfl
theorem sls_str (l : List UInt8) (lo hi : Option Value) : slsW (.string (ofL l)) lo hi K ↔ bdW hi l.length l.length fun h => bdW lo 0 h fun m => K (.string (ofL ((l.take h).drop m))) := by simp only [slsW, ofL_size, ofL_data]
theorem sll_sl (size : Nat) (p : Option Addr) (n c : Nat) (lo hi mx : Option Value) : sllW size (.slice p n c) lo hi mx K ↔ bdW mx c c fun m => (bdW hi n m fun h => bdW lo 0 h fun l => K (.slice (if m = l then p else p.map (·.add (l * size))) (h - l) (m - l))) := Iff.rfl
theorem isB_t (c : Bool) : isB (.bool c) true = c := by cases c <;> rfl
theorem isB_f (c : Bool) : isB (.bool c) false = !c := by cases c <;> rfl
end forms

/-- the guard's two ways, walked on -/
theorem GdW.go {c : Bool} {u : List Value} {w : World} {A : (List Value → World → Prop) → Prop} {B : List Value → Fr → World → Prop}
    (h1 : c = true → A (fun s w' => ∀ g, B s g w')) (h2 : c = false → ∀ g, B u g w) : GdW c u w A B :=
  ⟨fun s w' => ∀ g, B s g w', h1, fun h => h2 h, fun s g _ h => h g⟩
theorem GdW.t {u : List Value} {w : World} {A : (List Value → World → Prop) → Prop} {B : List Value → Fr → World → Prop} (h : A (fun s w' => ∀ g, B s g w')) : GdW true u w A B :=
  GdW.go (fun _ => h) (fun e => by cases e)
theorem GdW.f {u : List Value} {w : World} {A : (List Value → World → Prop) → Prop} {B : List Value → Fr → World → Prop} (h : ∀ g, B u g w) : GdW false u w A B :=
  GdW.go (fun e => by cases e) (fun _ => h)
/-- the two ways meet at one value, in the same world -/
theorem GdW.meet {c : Bool} {u : List Value} {w : World} {A : (List Value → World → Prop) → Prop} {B : List Value → Fr → World → Prop} (s : List Value)
    (h1 : c = true → A (fun s' w' => s' = s ∧ w' = w)) (h2 : c = false → u = s) (h3 : ∀ g, B s g w) : GdW c u w A B :=
  ⟨fun s' w' => s' = s ∧ w' = w, h1, fun h => ⟨h2 h, rfl⟩, fun s' g w' h => by obtain ⟨rfl, rfl⟩ := h; exact h3 g⟩
theorem GdW.cut {c : Bool} {u : List Value} {w : World} {A : (List Value → World → Prop) → Prop} {B : List Value → Fr → World → Prop} (J : List Value → World → Prop)
    (h1 : c = true → A J) (h2 : c = false → J u w) (h3 : ∀ s g w', J s w' → B s g w') : GdW c u w A B := ⟨J, h1, h2, h3⟩
theorem JoinW.go {A : (List Value → World → Prop) → Prop} {B : List Value → Fr → World → Prop} (h : A (fun s w' => ∀ g, B s g w')) : JoinW A B := ⟨_, h, fun _ g _ h => h g⟩
theorem JoinW.cut {A : (List Value → World → Prop) → Prop} {B : List Value → Fr → World → Prop} (J : List Value → World → Prop) (h1 : A J) (h2 : ∀ s g w', J s w' → B s g w') : JoinW A B := ⟨J, h1, h2⟩
theorem LoopW.go {s0 : List Value} {w0 : World} {B : List Value → Fr → World → (List Value → World → Prop) → Prop} (I : List Value → World → Prop) (μ : List Value → World → Nat)
    (h0 : I s0 w0) (h : ∀ s g w, I s w → B s g w (fun s' w' => I s' w' ∧ μ s' w' < μ s w)) : LoopW s0 w0 B := ⟨I, μ, h0, h⟩
theorem put_one (c : List Value) (i : Nat) (v : Value) (r : List (Nat × Nat × Value)) (K : List Value → Prop) (h : v.cells = #[v]) : putW c ((i, 1, v) :: r) K ↔ i < c.length ∧ putW (c.set i v) r K := by
  simp only [putW, h]
  constructor
  · rintro ⟨_, h2, h3⟩
    rw [List.set_eq_take_append_cons_drop, if_pos (by omega)]
    exact ⟨by omega, by simpa using h3⟩
  · rintro ⟨h2, h3⟩
    rw [List.set_eq_take_append_cons_drop, if_pos (by omega)] at h3
    exact ⟨rfl, by omega, by simpa using h3⟩
theorem put_nil (c : List Value) (K : List Value → Prop) : putW c [] K ↔ K c := Iff.rfl
theorem put_map (c : List Value) (i : Nat) (v : Option Nat) (r : List (Nat × Nat × Value)) (K : List Value → Prop) : putW c ((i, 1, .map v) :: r) K ↔ i < c.length ∧ putW (c.set i (.map v)) r K := put_one c i _ r K rfl
theorem put_int (c : List Value) (i : Nat) (k : IntKind) (v : Int) (r : List (Nat × Nat × Value)) (K : List Value → Prop) : putW c ((i, 1, .int k v) :: r) K ↔ i < c.length ∧ putW (c.set i (.int k v)) r K := put_one c i _ r K rfl
theorem put_str (c : List Value) (i : Nat) (v : ByteArray) (r : List (Nat × Nat × Value)) (K : List Value → Prop) : putW c ((i, 1, .string v) :: r) K ↔ i < c.length ∧ putW (c.set i (.string v)) r K := put_one c i _ r K rfl
theorem put_bool (c : List Value) (i : Nat) (v : Bool) (r : List (Nat × Nat × Value)) (K : List Value → Prop) : putW c ((i, 1, .bool v) :: r) K ↔ i < c.length ∧ putW (c.set i (.bool v)) r K := put_one c i _ r K rfl
theorem put_ptr (c : List Value) (i : Nat) (v : Option Addr) (r : List (Nat × Nat × Value)) (K : List Value → Prop) : putW c ((i, 1, .pointer v) :: r) K ↔ i < c.length ∧ putW (c.set i (.pointer v)) r K := put_one c i _ r K rfl
theorem put_slice (c : List Value) (i : Nat) (p : Option Addr) (n m : Nat) (r : List (Nat × Nat × Value)) (K : List Value → Prop) : putW c ((i, 1, .slice p n m) :: r) K ↔ i < c.length ∧ putW (c.set i (.slice p n m)) r K := put_one c i _ r K rfl
end Go.Eng
