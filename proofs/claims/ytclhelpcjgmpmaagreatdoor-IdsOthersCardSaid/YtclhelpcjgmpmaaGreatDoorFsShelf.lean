/- The shelf's contracts of maps.Clone, maps.Keys and slices.Sorted, at this translation, in plain words (laid by the kit's commands). -/
import Derived.Shelf.SlIter.Nil
import Derived.Shelf.SortM.Plain
import Derived.Shelf.SortM.SortNone
import Derived.Ground.GgzProg
import Derived.Ground.SlgmProg
import Derived.Shelf.SlMaps.Clone
import Derived.Ground.SlmcProg
import Derived.Test.YtclhelpcjgmpmaaGreatDoorProg
namespace Go.Proofs
open Go.Shelf
def Tryz.keys26_ren : Go.Shelf.Ren := ⟨fun | 7 => 26 | 10 => 45 | n => n, fun | 23 => 45 | 26 => 9 | 3 => 59 | 28 => 57 | 0 => 0 | 27 => 56 | 33 => 85 | 4 => 4 | n => n, fun | n => n⟩
theorem Tryz.keys26 : Go.Proofs.SlLaysZ.n7 Tryz.prog Tryz.keys26_ren := {
  mixed := by kernel_rfl
  f7 := ⟨Tryz.f26.name, by decide, Tryz.func26.trans (congrArg some (by kernel_rfl))⟩
  f10 := ⟨Tryz.f45.name, by decide, Tryz.func45.trans (congrArg some (by kernel_rfl))⟩
  t0 := Tryz.underlying0
  a0 := Tryz.isAgg0
  z0 := Tryz.sizeOf0
  v0 := Tryz.zeroValue0
  t4 := Tryz.underlying4
  a4 := Tryz.isAgg4
  z4 := Tryz.sizeOf4
  v4 := Tryz.zeroValue4
  t23 := Tryz.underlying45
  a23 := Tryz.isAgg45
  z23 := Tryz.sizeOf45
  v23 := Tryz.zeroValue45
  t26 := Tryz.underlying9
  a26 := Tryz.isAgg9
  z26 := Tryz.sizeOf9
  v26 := Tryz.zeroValue9
  t27 := Tryz.underlying56
  a27 := Tryz.isAgg56
  z27 := Tryz.sizeOf56
  v27 := Tryz.zeroValue56
  t28 := Tryz.underlying57
  a28 := Tryz.isAgg57
  z28 := Tryz.sizeOf57
  v28 := Tryz.zeroValue57
  t33 := Tryz.underlying85
  a33 := Tryz.isAgg85
  z33 := Tryz.sizeOf85
  v33 := Tryz.zeroValue85 }
def Tryz.sorted25_ren : Go.Shelf.Ren := ⟨fun | 6 => 25 | 8 => 43 | 9 => 44 | 11 => 61 | 13 => 63 | 12 => 62 | 23 => 83 | 24 => 84 | 14 => 74 | 15 => 75 | 16 => 76 | 17 => 77 | 18 => 78 | 19 => 79 | 20 => 80 | 21 => 81 | 22 => 82 | 25 => 94 | 26 => 95 | 27 => 96 | 28 => 97 | 29 => 98 | 30 => 99 | 31 => 105 | n => n, fun | 26 => 9 | 28 => 57 | 24 => 33 | 0 => 0 | 3 => 3 | 37 => 69 | 48 => 89 | 50 => 92 | 4 => 4 | 40 => 115 | 39 => 114 | 45 => 82 | 5 => 5 | 9 => 9 | 51 => 131 | 55 => 135 | 57 => 143 | 58 => 144 | 33 => 85 | n => n, fun | n => n⟩
theorem Tryz.sorted25 : Go.Proofs.SlLaysZ.n6 Tryz.prog Tryz.sorted25_ren := {
  mixed := by kernel_rfl
  f6 := ⟨Tryz.f25.name, by decide, Tryz.func25.trans (congrArg some (by kernel_rfl))⟩
  f8 := ⟨Tryz.f43.name, by decide, Tryz.func43.trans (congrArg some (by kernel_rfl))⟩
  f11 := ⟨Tryz.f61.name, by decide, Tryz.func61.trans (congrArg some (by kernel_rfl))⟩
  t0 := Tryz.underlying0
  a0 := Tryz.isAgg0
  z0 := Tryz.sizeOf0
  v0 := Tryz.zeroValue0
  t24 := Tryz.underlying33
  a24 := Tryz.isAgg33
  z24 := Tryz.sizeOf33
  v24 := Tryz.zeroValue33
  t26 := Tryz.underlying9
  a26 := Tryz.isAgg9
  z26 := Tryz.sizeOf9
  v26 := Tryz.zeroValue9
  t28 := Tryz.underlying57
  a28 := Tryz.isAgg57
  z28 := Tryz.sizeOf57
  v28 := Tryz.zeroValue57
  i26 := by kernel_rfl }
def Tryz.sort44_ren : Go.Shelf.Ren := ⟨fun | 6 => 44 | 8 => 63 | 9 => 62 | 19 => 83 | 20 => 84 | 21 => 74 | 22 => 75 | 23 => 76 | 24 => 77 | 25 => 78 | 26 => 79 | 27 => 80 | 28 => 81 | 29 => 82 | 36 => 94 | 31 => 95 | 32 => 96 | 37 => 97 | 38 => 98 | 39 => 99 | 41 => 105 | n => n, fun | 27 => 33 | 29 => 9 | 3 => 3 | 32 => 69 | 26 => 33 | 0 => 0 | 44 => 89 | 46 => 92 | 4 => 4 | 36 => 115 | 35 => 114 | 41 => 82 | 5 => 5 | 9 => 9 | 53 => 131 | 57 => 135 | 63 => 143 | 64 => 144 | n => n, fun | n => n⟩
theorem Tryz.sort44 : Go.Proofs.SlLaysM.n6 Tryz.prog Tryz.sort44_ren := {
  mixed := by kernel_rfl
  f6 := ⟨Tryz.f44.name, by decide, Tryz.func44.trans (congrArg some (by kernel_rfl))⟩
  f8 := Tryz.func63.trans (congrArg some (by kernel_rfl))
  f9 := ⟨Tryz.f62.name, by decide, Tryz.func62.trans (congrArg some (by kernel_rfl))⟩
  f19 := Tryz.func83.trans (congrArg some (by kernel_rfl))
  f20 := Tryz.func84.trans (congrArg some (by kernel_rfl))
  f21 := ⟨Tryz.f74.name, by decide, Tryz.func74.trans (congrArg some (by kernel_rfl))⟩
  f22 := ⟨Tryz.f75.name, by decide, Tryz.func75.trans (congrArg some (by kernel_rfl))⟩
  f23 := ⟨Tryz.f76.name, by decide, Tryz.func76.trans (congrArg some (by kernel_rfl))⟩
  f24 := ⟨Tryz.f77.name, by decide, Tryz.func77.trans (congrArg some (by kernel_rfl))⟩
  f25 := ⟨Tryz.f78.name, by decide, Tryz.func78.trans (congrArg some (by kernel_rfl))⟩
  f26 := ⟨Tryz.f79.name, by decide, Tryz.func79.trans (congrArg some (by kernel_rfl))⟩
  f27 := ⟨Tryz.f80.name, by decide, Tryz.func80.trans (congrArg some (by kernel_rfl))⟩
  f28 := ⟨Tryz.f81.name, by decide, Tryz.func81.trans (congrArg some (by kernel_rfl))⟩
  f29 := ⟨Tryz.f82.name, by decide, Tryz.func82.trans (congrArg some (by kernel_rfl))⟩
  f31 := Tryz.func95.trans (congrArg some (by kernel_rfl))
  f32 := Tryz.func96.trans (congrArg some (by kernel_rfl))
  f36 := ⟨Tryz.f94.name, by decide, Tryz.func94.trans (congrArg some (by kernel_rfl))⟩
  f37 := ⟨Tryz.f97.name, by decide, Tryz.func97.trans (congrArg some (by kernel_rfl))⟩
  f38 := ⟨Tryz.f98.name, by decide, Tryz.func98.trans (congrArg some (by kernel_rfl))⟩
  f39 := ⟨Tryz.f99.name, by decide, Tryz.func99.trans (congrArg some (by kernel_rfl))⟩
  f41 := ⟨Tryz.f105.name, by decide, Tryz.func105.trans (congrArg some (by kernel_rfl))⟩
  t0 := Tryz.underlying0
  a0 := Tryz.isAgg0
  z0 := Tryz.sizeOf0
  v0 := Tryz.zeroValue0
  t3 := Tryz.underlying3
  a3 := Tryz.isAgg3
  z3 := Tryz.sizeOf3
  v3 := Tryz.zeroValue3
  t4 := Tryz.underlying4
  a4 := Tryz.isAgg4
  z4 := Tryz.sizeOf4
  v4 := Tryz.zeroValue4
  t5 := Tryz.underlying5
  a5 := Tryz.isAgg5
  z5 := Tryz.sizeOf5
  v5 := Tryz.zeroValue5
  t9 := Tryz.underlying9
  a9 := Tryz.isAgg9
  z9 := Tryz.sizeOf9
  v9 := Tryz.zeroValue9
  t26 := Tryz.underlying33
  a26 := Tryz.isAgg33
  z26 := Tryz.sizeOf33
  v26 := Tryz.zeroValue33
  t27 := Tryz.underlying33
  a27 := Tryz.isAgg33
  z27 := Tryz.sizeOf33
  v27 := Tryz.zeroValue33
  t29 := Tryz.underlying9
  a29 := Tryz.isAgg9
  z29 := Tryz.sizeOf9
  v29 := Tryz.zeroValue9
  t32 := Tryz.underlying69
  a32 := Tryz.isAgg69
  z32 := Tryz.sizeOf69
  v32 := Tryz.zeroValue69
  t35 := Tryz.underlying114
  a35 := Tryz.isAgg114
  z35 := Tryz.sizeOf114
  v35 := Tryz.zeroValue114
  t36 := Tryz.underlying115
  a36 := Tryz.isAgg115
  z36 := Tryz.sizeOf115
  v36 := Tryz.zeroValue115
  t41 := Tryz.underlying82
  a41 := Tryz.isAgg82
  z41 := Tryz.sizeOf82
  v41 := Tryz.zeroValue82
  t44 := Tryz.underlying89
  a44 := Tryz.isAgg89
  z44 := Tryz.sizeOf89
  v44 := Tryz.zeroValue89
  t46 := Tryz.underlying92
  a46 := Tryz.isAgg92
  z46 := Tryz.sizeOf92
  v46 := Tryz.zeroValue92
  t53 := Tryz.underlying131
  a53 := Tryz.isAgg131
  z53 := Tryz.sizeOf131
  v53 := Tryz.zeroValue131
  t57 := Tryz.underlying135
  a57 := Tryz.isAgg135
  z57 := Tryz.sizeOf135
  v57 := Tryz.zeroValue135
  t63 := Tryz.underlying143
  a63 := Tryz.isAgg143
  z63 := Tryz.sizeOf143
  v63 := Tryz.zeroValue143
  t64 := Tryz.underlying144
  a64 := Tryz.isAgg144
  z64 := Tryz.sizeOf144
  v64 := Tryz.zeroValue144 }
def Tryz.fsClone_ren : Go.Shelf.Ren := ⟨fun | 5 => 31 | 7 => 50 | n => n, fun | 23 => 45 | 25 => 9 | 3 => 59 | 4 => 4 | 20 => 20 | n => n, fun | n => n⟩
theorem Tryz.fsClone : Go.Proofs.SlLaysW.n5 Tryz.prog Tryz.fsClone_ren := {
  mixed := by kernel_rfl
  f5 := ⟨Tryz.f31.name, by decide, Tryz.func31.trans (congrArg some (by kernel_rfl))⟩
  f7 := Tryz.func50.trans (congrArg some (by kernel_rfl))
  t4 := Tryz.underlying4
  a4 := Tryz.isAgg4
  z4 := Tryz.sizeOf4
  v4 := Tryz.zeroValue4
  t20 := Tryz.underlying20
  a20 := Tryz.isAgg20
  z20 := Tryz.sizeOf20
  v20 := Tryz.zeroValue20
  t23 := Tryz.underlying45
  a23 := Tryz.isAgg45
  z23 := Tryz.sizeOf45
  v23 := Tryz.zeroValue45 }
end Go.Proofs
namespace Go.Proofs
open Go.RowKit Go.Maps Go.Sort Go.Shelf

theorem Tryz.sorts25 (m : Nat) : AnyZ.SortsIn Tryz.prog Tryz.sorted25_ren Fence.wide m :=
  ⟨fun blk off cap ss W hH hblk hsz => callsIn_wide.2 (AnyM.slices_Sort_string Tryz.sort44 blk off cap ss W hH hblk hsz),
   fun p cap W => callsIn_wide.2 (AnyM.slices_Sort_string_none Tryz.sort44 p cap W)⟩

theorem Tryz.fsKeys (mb : Option Nat) (W : World) : CallsIn Fence.wide 5 Tryz.prog 26 #[.map mb] W fun e w' => e = .returned (.func (.func 45) #[] #[.pointer (some ⟨W.heap.size, 0, none⟩)]) ∧ w' = W.alloc (.cells #[.map mb] 45) :=
  AnyZ.keys_in Tryz.keys26 Fence.wide 5 trivial rfl mb W

set_option maxHeartbeats 1000000 in
theorem Tryz.fsSorted {H : Type} (b nn : Nat) (D0 : DataW H) (R : Value → Option (DataW H × List MemPlace)) (w : World) (hown : w.ownsMap Tryz.prog 9 R b nn D0) (hmax : Maps.size D0 ≤ maxLen) (hbytes : Maps.size D0 * 16 ≤ 140737488355328) :
    CallsIn Fence.wide 5 Tryz.prog 25 #[.func (.func 45) #[] #[.pointer (some ⟨w.heap.size, 0, none⟩)]] (w.alloc (.cells #[.map (some b)] 45)) fun e w' => ∃ (v : Value) (ss : List (List UInt8)), e = .returned v ∧ ss.Perm (strKeys D0) ∧
      w'.ownsRow (w.alloc (.cells #[.map (some b)] 45)).heap.size 9 1 v ss.length ((ss.mergeSort (fun x y => decide (x ≤ y))).map encStr) ∧ (v = .slice none 0 0 ↔ ss = []) ∧ Below (w.alloc (.cells #[.map (some b)] 45)).heap.size (w.alloc (.cells #[.map (some b)] 45)) w' := by
  have hbl := hown.lt
  have hseq : SeqGives Fence.wide 2 Tryz.prog 45 #[.pointer (some ⟨w.heap.size, 0, none⟩)] encStr (fun ss => ss.Perm (strKeys D0)) (Maps.size D0) (w.alloc (.cells #[.map (some b)] 45)) :=
    AnyZ.keys_gives (ρ := Tryz.keys26_ren) { Tryz.keys26 with } Fence.wide _ trivial rfl (by omega) w.heap.size b nn D0 _ (by simp) (by simp) (by
      obtain ⟨es, clock, hb, Ft, hs, hD⟩ := hown
      exact ⟨es, clock, (Below.heap_alloc _ _ b hbl).trans hb, Ft, hs, hD⟩)
  exact AnyZ.sorted_in Tryz.sorted25 Fence.wide 5 trivial trivial trivial trivial rfl (by omega) (Tryz.sorts25 _) (enters_of Tryz.func44 (by kernel_rfl) rfl) 45 #[.pointer (some ⟨w.heap.size, 0, none⟩)] trivial (enters_of Tryz.func45 (by kernel_rfl) rfl) _ _ hmax hbytes _ hseq

set_option maxHeartbeats 1000000 in
theorem Tryz.fsSortedNil (w : World) :
    CallsIn Fence.wide 5 Tryz.prog 25 #[.func (.func 45) #[] #[.pointer (some ⟨w.heap.size, 0, none⟩)]] (w.alloc (.cells #[.map none] 45)) fun e w' => ∃ (v : Value) (ss : List (List UInt8)), e = .returned v ∧ ss = [] ∧
      w'.ownsRow (w.alloc (.cells #[.map none] 45)).heap.size 9 1 v ss.length ((ss.mergeSort (fun x y => decide (x ≤ y))).map encStr) ∧ (v = .slice none 0 0 ↔ ss = []) ∧ Below (w.alloc (.cells #[.map none] 45)).heap.size (w.alloc (.cells #[.map none] 45)) w' := by
  have hseq : SeqGives Fence.wide 2 Tryz.prog 45 #[.pointer (some ⟨w.heap.size, 0, none⟩)] encStr (fun ss : List (List UInt8) => ss = []) 0 (w.alloc (.cells #[.map none] 45)) :=
    AnyZ.keys_gives_nil (ρ := Tryz.keys26_ren) { Tryz.keys26 with } Fence.wide _ trivial rfl w.heap.size _ (by simp) (by simp)
  exact AnyZ.sorted_in Tryz.sorted25 Fence.wide 5 trivial trivial trivial trivial rfl (by omega) (Tryz.sorts25 _) (enters_of Tryz.func44 (by kernel_rfl) rfl) 45 #[.pointer (some ⟨w.heap.size, 0, none⟩)] trivial (enters_of Tryz.func45 (by kernel_rfl) rfl) _ 0 (Nat.zero_le _) (by omega) _ hseq



end Go.Proofs
