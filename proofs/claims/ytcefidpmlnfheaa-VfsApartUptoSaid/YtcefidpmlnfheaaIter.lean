/-
  DERIVED. MADE BY PROGRAM (lay-iter.mjs) off ytcefidpmlnfheaa.cut.gsa: THE SHELF's CONTRACTS ON 'slices.Sorted(maps.Keys(m))' LAID AT THIS DUMP: 1 map type. NO WALK OF THE LIBRARY's TEXT: each is one application of a contract over any P and ρ (Derived/Shelf/SlIter/, Derived/Shelf/SortM/).
-/
import Derived.Shelf.SlIter.Nil
import Derived.Shelf.SortM.Plain
import Derived.Shelf.SortM.SortNone
import Derived.Test.YtcefidpmlnfheaaProg
namespace Go.Proofs
open Go.RowKit Go.Maps Go.Sort Go.Shelf

def Try.keys33_ren : Go.Shelf.Ren := ⟨fun | 7 => 33 | 10 => 47 | n => n, fun | 23 => 62 | 26 => 9 | 3 => 69 | 28 => 74 | 0 => 0 | 27 => 73 | 33 => 65 | 4 => 4 | n => n, fun n => n⟩
theorem Try.keys33 : Go.Proofs.SlLaysZ.n7 Try.prog Try.keys33_ren := {
  mixed := by kernel_rfl
  f7 := ⟨Try.f33.name, of_decide_eq_true (by kernel_rfl), Try.func33.trans (congrArg some (by kernel_rfl))⟩
  f10 := ⟨Try.f47.name, of_decide_eq_true (by kernel_rfl), Try.func47.trans (congrArg some (by kernel_rfl))⟩
  t0 := Try.underlying0
  a0 := Try.isAgg0
  z0 := Try.sizeOf0
  v0 := Try.zeroValue0
  t4 := Try.underlying4
  a4 := Try.isAgg4
  z4 := Try.sizeOf4
  v4 := Try.zeroValue4
  t23 := Try.underlying62
  a23 := Try.isAgg62
  z23 := Try.sizeOf62
  v23 := Try.zeroValue62
  t26 := Try.underlying9
  a26 := Try.isAgg9
  z26 := Try.sizeOf9
  v26 := Try.zeroValue9
  t27 := Try.underlying73
  a27 := Try.isAgg73
  z27 := Try.sizeOf73
  v27 := Try.zeroValue73
  t28 := Try.underlying74
  a28 := Try.isAgg74
  z28 := Try.sizeOf74
  v28 := Try.zeroValue74
  t33 := Try.underlying65
  a33 := Try.isAgg65
  z33 := Try.sizeOf65
  v33 := Try.zeroValue65 }
def Try.sorted32_ren : Go.Shelf.Ren := ⟨fun | 6 => 32 | 8 => 45 | 9 => 46 | 11 => 51 | 13 => 53 | 12 => 52 | 23 => 67 | 24 => 68 | 14 => 58 | 15 => 59 | 16 => 60 | 17 => 61 | 18 => 62 | 19 => 63 | 20 => 64 | 21 => 65 | 22 => 66 | 25 => 73 | 26 => 74 | 27 => 75 | 28 => 76 | 29 => 77 | 30 => 78 | 31 => 80 | n => n, fun | 26 => 9 | 28 => 74 | 24 => 31 | 0 => 0 | 3 => 3 | 37 => 28 | 48 => 108 | 50 => 110 | 4 => 4 | 40 => 101 | 39 => 100 | 45 => 105 | 5 => 5 | 9 => 9 | 51 => 115 | 55 => 119 | 57 => 121 | 58 => 122 | 33 => 65 | n => n, fun n => n⟩
theorem Try.sorted32 : Go.Proofs.SlLaysZ.n6 Try.prog Try.sorted32_ren := {
  mixed := by kernel_rfl
  f6 := ⟨Try.f32.name, of_decide_eq_true (by kernel_rfl), Try.func32.trans (congrArg some (by kernel_rfl))⟩
  f8 := ⟨Try.f45.name, of_decide_eq_true (by kernel_rfl), Try.func45.trans (congrArg some (by kernel_rfl))⟩
  f11 := ⟨Try.f51.name, of_decide_eq_true (by kernel_rfl), Try.func51.trans (congrArg some (by kernel_rfl))⟩
  t0 := Try.underlying0
  a0 := Try.isAgg0
  z0 := Try.sizeOf0
  v0 := Try.zeroValue0
  t24 := Try.underlying31
  a24 := Try.isAgg31
  z24 := Try.sizeOf31
  v24 := Try.zeroValue31
  t26 := Try.underlying9
  a26 := Try.isAgg9
  z26 := Try.sizeOf9
  v26 := Try.zeroValue9
  t28 := Try.underlying74
  a28 := Try.isAgg74
  z28 := Try.sizeOf74
  v28 := Try.zeroValue74
  i26 := by kernel_rfl }
def Try.sort46_ren : Go.Shelf.Ren := ⟨fun | 6 => 46 | 8 => 53 | 9 => 52 | 19 => 67 | 20 => 68 | 21 => 58 | 22 => 59 | 23 => 60 | 24 => 61 | 25 => 62 | 26 => 63 | 27 => 64 | 28 => 65 | 29 => 66 | 36 => 73 | 31 => 74 | 32 => 75 | 37 => 76 | 38 => 77 | 39 => 78 | 41 => 80 | n => n, fun | 27 => 31 | 29 => 9 | 3 => 3 | 32 => 28 | 26 => 31 | 0 => 0 | 44 => 108 | 46 => 110 | 4 => 4 | 36 => 101 | 35 => 100 | 41 => 105 | 5 => 5 | 9 => 9 | 53 => 115 | 57 => 119 | 63 => 121 | 64 => 122 | n => n, fun n => n⟩
theorem Try.sort46 : Go.Proofs.SlLaysM.n6 Try.prog Try.sort46_ren := {
  mixed := by kernel_rfl
  f6 := ⟨Try.f46.name, of_decide_eq_true (by kernel_rfl), Try.func46.trans (congrArg some (by kernel_rfl))⟩
  f8 := Try.func53.trans (congrArg some (by kernel_rfl))
  f9 := ⟨Try.f52.name, of_decide_eq_true (by kernel_rfl), Try.func52.trans (congrArg some (by kernel_rfl))⟩
  f19 := Try.func67.trans (congrArg some (by kernel_rfl))
  f20 := Try.func68.trans (congrArg some (by kernel_rfl))
  f21 := ⟨Try.f58.name, of_decide_eq_true (by kernel_rfl), Try.func58.trans (congrArg some (by kernel_rfl))⟩
  f22 := ⟨Try.f59.name, of_decide_eq_true (by kernel_rfl), Try.func59.trans (congrArg some (by kernel_rfl))⟩
  f23 := ⟨Try.f60.name, of_decide_eq_true (by kernel_rfl), Try.func60.trans (congrArg some (by kernel_rfl))⟩
  f24 := ⟨Try.f61.name, of_decide_eq_true (by kernel_rfl), Try.func61.trans (congrArg some (by kernel_rfl))⟩
  f25 := ⟨Try.f62.name, of_decide_eq_true (by kernel_rfl), Try.func62.trans (congrArg some (by kernel_rfl))⟩
  f26 := ⟨Try.f63.name, of_decide_eq_true (by kernel_rfl), Try.func63.trans (congrArg some (by kernel_rfl))⟩
  f27 := ⟨Try.f64.name, of_decide_eq_true (by kernel_rfl), Try.func64.trans (congrArg some (by kernel_rfl))⟩
  f28 := ⟨Try.f65.name, of_decide_eq_true (by kernel_rfl), Try.func65.trans (congrArg some (by kernel_rfl))⟩
  f29 := ⟨Try.f66.name, of_decide_eq_true (by kernel_rfl), Try.func66.trans (congrArg some (by kernel_rfl))⟩
  f31 := Try.func74.trans (congrArg some (by kernel_rfl))
  f32 := Try.func75.trans (congrArg some (by kernel_rfl))
  f36 := ⟨Try.f73.name, of_decide_eq_true (by kernel_rfl), Try.func73.trans (congrArg some (by kernel_rfl))⟩
  f37 := ⟨Try.f76.name, of_decide_eq_true (by kernel_rfl), Try.func76.trans (congrArg some (by kernel_rfl))⟩
  f38 := ⟨Try.f77.name, of_decide_eq_true (by kernel_rfl), Try.func77.trans (congrArg some (by kernel_rfl))⟩
  f39 := ⟨Try.f78.name, of_decide_eq_true (by kernel_rfl), Try.func78.trans (congrArg some (by kernel_rfl))⟩
  f41 := ⟨Try.f80.name, of_decide_eq_true (by kernel_rfl), Try.func80.trans (congrArg some (by kernel_rfl))⟩
  t0 := Try.underlying0
  a0 := Try.isAgg0
  z0 := Try.sizeOf0
  v0 := Try.zeroValue0
  t3 := Try.underlying3
  a3 := Try.isAgg3
  z3 := Try.sizeOf3
  v3 := Try.zeroValue3
  t4 := Try.underlying4
  a4 := Try.isAgg4
  z4 := Try.sizeOf4
  v4 := Try.zeroValue4
  t5 := Try.underlying5
  a5 := Try.isAgg5
  z5 := Try.sizeOf5
  v5 := Try.zeroValue5
  t9 := Try.underlying9
  a9 := Try.isAgg9
  z9 := Try.sizeOf9
  v9 := Try.zeroValue9
  t26 := Try.underlying31
  a26 := Try.isAgg31
  z26 := Try.sizeOf31
  v26 := Try.zeroValue31
  t27 := Try.underlying31
  a27 := Try.isAgg31
  z27 := Try.sizeOf31
  v27 := Try.zeroValue31
  t29 := Try.underlying9
  a29 := Try.isAgg9
  z29 := Try.sizeOf9
  v29 := Try.zeroValue9
  t32 := Try.underlying28
  a32 := Try.isAgg28
  z32 := Try.sizeOf28
  v32 := Try.zeroValue28
  t35 := Try.underlying100
  a35 := Try.isAgg100
  z35 := Try.sizeOf100
  v35 := Try.zeroValue100
  t36 := Try.underlying101
  a36 := Try.isAgg101
  z36 := Try.sizeOf101
  v36 := Try.zeroValue101
  t41 := Try.underlying105
  a41 := Try.isAgg105
  z41 := Try.sizeOf105
  v41 := Try.zeroValue105
  t44 := Try.underlying108
  a44 := Try.isAgg108
  z44 := Try.sizeOf108
  v44 := Try.zeroValue108
  t46 := Try.underlying110
  a46 := Try.isAgg110
  z46 := Try.sizeOf110
  v46 := Try.zeroValue110
  t53 := Try.underlying115
  a53 := Try.isAgg115
  z53 := Try.sizeOf115
  v53 := Try.zeroValue115
  t57 := Try.underlying119
  a57 := Try.isAgg119
  z57 := Try.sizeOf119
  v57 := Try.zeroValue119
  t63 := Try.underlying121
  a63 := Try.isAgg121
  z63 := Try.sizeOf121
  v63 := Try.zeroValue121
  t64 := Try.underlying122
  a64 := Try.isAgg122
  z64 := Try.sizeOf122
  v64 := Try.zeroValue122 }

/-- slices.Sort's two contracts at this dump, at the fence that asks nothing. -/
theorem Try.sorts32 (m : Nat) : AnyZ.SortsIn Try.prog Try.sorted32_ren Fence.wide m :=
  ⟨fun blk off cap ss W hH hblk hsz => callsIn_wide.2 (AnyM.slices_Sort_string Try.sort46 blk off cap ss W hH hblk hsz),
   fun p cap W => callsIn_wide.2 (AnyM.slices_Sort_string_none Try.sort46 p cap W)⟩

/-- **maps.Keys[map[string]purlin/vfs.file,string,purlin/vfs.file], at whatever map, the nil one too:** a function value over ONE NEW BLOCK, which holds the map. -/
theorem Try.maps_Keys_33 (mb : Option Nat) (W : World) : CallsIn Fence.wide 5 Try.prog 33 #[.map mb] W fun e w' => e = .returned (.func (.func 47) #[] #[.pointer (some ⟨W.heap.size, 0, none⟩)]) ∧ w' = W.alloc (.cells #[.map mb] 62) :=
  AnyZ.keys_in Try.keys33 Fence.wide 5 trivial rfl mb W

set_option maxHeartbeats 1000000 in
/-- **slices.Sorted[string] AT WHAT maps.Keys[map[string]purlin/vfs.file,string,purlin/vfs.file] HANDED BACK FOR A MAP THAT IS NOT nil** ('w': the world AHEAD of maps.Keys' call): A NEW SLICE THAT HOLDS THE MAP's KEYS, SORTED; nil just where it has none; nothing that lay before has turned. -/
theorem Try.slices_Sorted_keys_32_33 {H : Type} (b nn : Nat) (D0 : DataW H) (R : Value → Option (DataW H × List MemPlace)) (w : World) (hown : w.ownsMap Try.prog 9 R b nn D0) (hmax : Maps.size D0 ≤ maxLen) (hbytes : Maps.size D0 * 16 ≤ 140737488355328) :
    CallsIn Fence.wide 5 Try.prog 32 #[.func (.func 47) #[] #[.pointer (some ⟨w.heap.size, 0, none⟩)]] (w.alloc (.cells #[.map (some b)] 62)) fun e w' => ∃ (v : Value) (ss : List (List UInt8)), e = .returned v ∧ ss.Perm (strKeys D0) ∧
      w'.ownsRow (w.alloc (.cells #[.map (some b)] 62)).heap.size 9 1 v ss.length ((ss.mergeSort (fun x y => decide (x ≤ y))).map encStr) ∧ (v = .slice none 0 0 ↔ ss = []) ∧ Below (w.alloc (.cells #[.map (some b)] 62)).heap.size (w.alloc (.cells #[.map (some b)] 62)) w' := by
  have hbl := hown.lt
  have hseq : SeqGives Fence.wide 2 Try.prog 47 #[.pointer (some ⟨w.heap.size, 0, none⟩)] encStr (fun ss => ss.Perm (strKeys D0)) (Maps.size D0) (w.alloc (.cells #[.map (some b)] 62)) :=
    AnyZ.keys_gives (ρ := Try.keys33_ren) { Try.keys33 with } Fence.wide _ trivial rfl (by omega) w.heap.size b nn D0 _ (by simp) (by simp) (by
      obtain ⟨es, clock, hb, Ft, hs, hD⟩ := hown
      exact ⟨es, clock, (Below.heap_alloc _ _ b hbl).trans hb, Ft, hs, hD⟩)
  exact AnyZ.sorted_in Try.sorted32 Fence.wide 5 trivial trivial trivial trivial rfl (by omega) (Try.sorts32 _) (enters_of Try.func46 (by kernel_rfl) rfl) 47 #[.pointer (some ⟨w.heap.size, 0, none⟩)] trivial (enters_of Try.func47 (by kernel_rfl) rfl) _ _ hmax hbytes _ hseq

set_option maxHeartbeats 1000000 in
/-- **.. AND FOR THE nil MAP: nil.** -/
theorem Try.slices_Sorted_keys_nil_32_33 (w : World) :
    CallsIn Fence.wide 5 Try.prog 32 #[.func (.func 47) #[] #[.pointer (some ⟨w.heap.size, 0, none⟩)]] (w.alloc (.cells #[.map none] 62)) fun e w' => ∃ (v : Value) (ss : List (List UInt8)), e = .returned v ∧ ss = [] ∧
      w'.ownsRow (w.alloc (.cells #[.map none] 62)).heap.size 9 1 v ss.length ((ss.mergeSort (fun x y => decide (x ≤ y))).map encStr) ∧ (v = .slice none 0 0 ↔ ss = []) ∧ Below (w.alloc (.cells #[.map none] 62)).heap.size (w.alloc (.cells #[.map none] 62)) w' := by
  have hseq : SeqGives Fence.wide 2 Try.prog 47 #[.pointer (some ⟨w.heap.size, 0, none⟩)] encStr (fun ss : List (List UInt8) => ss = []) 0 (w.alloc (.cells #[.map none] 62)) :=
    AnyZ.keys_gives_nil (ρ := Try.keys33_ren) { Try.keys33 with } Fence.wide _ trivial rfl w.heap.size _ (by simp) (by simp)
  exact AnyZ.sorted_in Try.sorted32 Fence.wide 5 trivial trivial trivial trivial rfl (by omega) (Try.sorts32 _) (enters_of Try.func46 (by kernel_rfl) rfl) 47 #[.pointer (some ⟨w.heap.size, 0, none⟩)] trivial (enters_of Try.func47 (by kernel_rfl) rfl) _ 0 (Nat.zero_le _) (by omega) _ hseq



end Go.Proofs
