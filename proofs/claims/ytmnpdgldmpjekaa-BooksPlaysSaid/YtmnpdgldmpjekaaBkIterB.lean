/-
  DERIVED. MADE BY PROGRAM (lay-iter.mjs) off ythfpldpeddomlab.cut.gsa: THE SHELF's CONTRACTS ON 'slices.Sorted(maps.Keys(m))' LAID AT THIS DUMP: 1 map type. NO WALK OF THE LIBRARY's TEXT: each is one application of a contract over any P and ρ (Derived/Shelf/SlIter/, Derived/Shelf/SortM/).
-/
import Derived.Shelf.SlIter.Nil
import Derived.Shelf.SortM.Plain
import Derived.Shelf.SortM.SortNone
import Derived.Ground.GgzProg
import Derived.Ground.SlgmProg
import Derived.Test.YtmnpdgldmpjekaaProg
namespace Go.Proofs
open Go.RowKit Go.Maps Go.Sort Go.Shelf

-- maps.Keys[map[string]int64,string,int64] (function 21; its iterator 31) · slices.Sorted[string] (20) · slices.Sort[[]string,string] (30) · the map's type 48, the keys' 9
def Try.keys21_ren : Go.Shelf.Ren := ⟨fun | 7 => 21 | 10 => 31 | n => n, fun | 23 => 48 | 26 => 9 | 3 => 2 | 28 => 53 | 0 => 0 | 27 => 52 | 33 => 60 | 4 => 4 | n => n, fun | n => n⟩
theorem Try.keys21 : Go.Proofs.SlLaysZ.n7 Try.prog Try.keys21_ren := {
  mixed := by kernel_rfl,
  f7 := ⟨Try.f21.name, by decide, Try.func21.trans (congrArg some (by kernel_rfl))⟩,
  f10 := ⟨Try.f31.name, by decide, Try.func31.trans (congrArg some (by kernel_rfl))⟩,
  t0 := Try.underlying0,
  a0 := Try.isAgg0,
  z0 := Try.sizeOf0,
  v0 := Try.zeroValue0,
  t4 := Try.underlying4,
  a4 := Try.isAgg4,
  z4 := Try.sizeOf4,
  v4 := Try.zeroValue4,
  t23 := Try.underlying48,
  a23 := Try.isAgg48,
  z23 := Try.sizeOf48,
  v23 := Try.zeroValue48,
  t26 := Try.underlying9,
  a26 := Try.isAgg9,
  z26 := Try.sizeOf9,
  v26 := Try.zeroValue9,
  t27 := Try.underlying52,
  a27 := Try.isAgg52,
  z27 := Try.sizeOf52,
  v27 := Try.zeroValue52,
  t28 := Try.underlying53,
  a28 := Try.isAgg53,
  z28 := Try.sizeOf53,
  v28 := Try.zeroValue53,
  t33 := Try.underlying60,
  a33 := Try.isAgg60,
  z33 := Try.sizeOf60,
  v33 := Try.zeroValue60 }
def Try.sorted20_ren : Go.Shelf.Ren := ⟨fun | 6 => 20 | 8 => 29 | 9 => 30 | 11 => 34 | 13 => 36 | 12 => 35 | 23 => 47 | 24 => 48 | 14 => 38 | 15 => 39 | 16 => 40 | 17 => 41 | 18 => 42 | 19 => 43 | 20 => 44 | 21 => 45 | 22 => 46 | 25 => 49 | 26 => 50 | 27 => 51 | 28 => 52 | 29 => 53 | 30 => 54 | 31 => 55 | n => n, fun | 26 => 9 | 28 => 53 | 24 => 30 | 0 => 0 | 3 => 3 | 37 => 67 | 48 => 79 | 50 => 81 | 4 => 4 | 40 => 71 | 39 => 70 | 45 => 76 | 5 => 5 | 9 => 9 | 51 => 82 | 55 => 86 | 57 => 88 | 58 => 89 | 33 => 60 | n => n, fun | n => n⟩
theorem Try.sorted20 : Go.Proofs.SlLaysZ.n6 Try.prog Try.sorted20_ren := {
  mixed := by kernel_rfl,
  f6 := ⟨Try.f20.name, by decide, Try.func20.trans (congrArg some (by kernel_rfl))⟩,
  f8 := ⟨Try.f29.name, by decide, Try.func29.trans (congrArg some (by kernel_rfl))⟩,
  f11 := ⟨Try.f34.name, by decide, Try.func34.trans (congrArg some (by kernel_rfl))⟩,
  t0 := Try.underlying0,
  a0 := Try.isAgg0,
  z0 := Try.sizeOf0,
  v0 := Try.zeroValue0,
  t24 := Try.underlying30,
  a24 := Try.isAgg30,
  z24 := Try.sizeOf30,
  v24 := Try.zeroValue30,
  t26 := Try.underlying9,
  a26 := Try.isAgg9,
  z26 := Try.sizeOf9,
  v26 := Try.zeroValue9,
  t28 := Try.underlying53,
  a28 := Try.isAgg53,
  z28 := Try.sizeOf53,
  v28 := Try.zeroValue53,
  i26 := by kernel_rfl }
def Try.sort30_ren : Go.Shelf.Ren := ⟨fun | 6 => 30 | 8 => 36 | 9 => 35 | 19 => 47 | 20 => 48 | 21 => 38 | 22 => 39 | 23 => 40 | 24 => 41 | 25 => 42 | 26 => 43 | 27 => 44 | 28 => 45 | 29 => 46 | 36 => 49 | 31 => 50 | 32 => 51 | 37 => 52 | 38 => 53 | 39 => 54 | 41 => 55 | n => n, fun | 27 => 30 | 29 => 9 | 3 => 3 | 32 => 67 | 26 => 30 | 0 => 0 | 44 => 79 | 46 => 81 | 4 => 4 | 36 => 71 | 35 => 70 | 41 => 76 | 5 => 5 | 9 => 9 | 53 => 82 | 57 => 86 | 63 => 88 | 64 => 89 | n => n, fun | n => n⟩
theorem Try.sort30 : Go.Proofs.SlLaysM.n6 Try.prog Try.sort30_ren := {
  mixed := by kernel_rfl,
  f6 := ⟨Try.f30.name, by decide, Try.func30.trans (congrArg some (by kernel_rfl))⟩,
  f8 := Try.func36.trans (congrArg some (by kernel_rfl)),
  f9 := ⟨Try.f35.name, by decide, Try.func35.trans (congrArg some (by kernel_rfl))⟩,
  f19 := Try.func47.trans (congrArg some (by kernel_rfl)),
  f20 := Try.func48.trans (congrArg some (by kernel_rfl)),
  f21 := ⟨Try.f38.name, by decide, Try.func38.trans (congrArg some (by kernel_rfl))⟩,
  f22 := ⟨Try.f39.name, by decide, Try.func39.trans (congrArg some (by kernel_rfl))⟩,
  f23 := ⟨Try.f40.name, by decide, Try.func40.trans (congrArg some (by kernel_rfl))⟩,
  f24 := ⟨Try.f41.name, by decide, Try.func41.trans (congrArg some (by kernel_rfl))⟩,
  f25 := ⟨Try.f42.name, by decide, Try.func42.trans (congrArg some (by kernel_rfl))⟩,
  f26 := ⟨Try.f43.name, by decide, Try.func43.trans (congrArg some (by kernel_rfl))⟩,
  f27 := ⟨Try.f44.name, by decide, Try.func44.trans (congrArg some (by kernel_rfl))⟩,
  f28 := ⟨Try.f45.name, by decide, Try.func45.trans (congrArg some (by kernel_rfl))⟩,
  f29 := ⟨Try.f46.name, by decide, Try.func46.trans (congrArg some (by kernel_rfl))⟩,
  f31 := Try.func50.trans (congrArg some (by kernel_rfl)),
  f32 := Try.func51.trans (congrArg some (by kernel_rfl)),
  f36 := ⟨Try.f49.name, by decide, Try.func49.trans (congrArg some (by kernel_rfl))⟩,
  f37 := ⟨Try.f52.name, by decide, Try.func52.trans (congrArg some (by kernel_rfl))⟩,
  f38 := ⟨Try.f53.name, by decide, Try.func53.trans (congrArg some (by kernel_rfl))⟩,
  f39 := ⟨Try.f54.name, by decide, Try.func54.trans (congrArg some (by kernel_rfl))⟩,
  f41 := ⟨Try.f55.name, by decide, Try.func55.trans (congrArg some (by kernel_rfl))⟩,
  t0 := Try.underlying0,
  a0 := Try.isAgg0,
  z0 := Try.sizeOf0,
  v0 := Try.zeroValue0,
  t3 := Try.underlying3,
  a3 := Try.isAgg3,
  z3 := Try.sizeOf3,
  v3 := Try.zeroValue3,
  t4 := Try.underlying4,
  a4 := Try.isAgg4,
  z4 := Try.sizeOf4,
  v4 := Try.zeroValue4,
  t5 := Try.underlying5,
  a5 := Try.isAgg5,
  z5 := Try.sizeOf5,
  v5 := Try.zeroValue5,
  t9 := Try.underlying9,
  a9 := Try.isAgg9,
  z9 := Try.sizeOf9,
  v9 := Try.zeroValue9,
  t26 := Try.underlying30,
  a26 := Try.isAgg30,
  z26 := Try.sizeOf30,
  v26 := Try.zeroValue30,
  t27 := Try.underlying30,
  a27 := Try.isAgg30,
  z27 := Try.sizeOf30,
  v27 := Try.zeroValue30,
  t29 := Try.underlying9,
  a29 := Try.isAgg9,
  z29 := Try.sizeOf9,
  v29 := Try.zeroValue9,
  t32 := Try.underlying67,
  a32 := Try.isAgg67,
  z32 := Try.sizeOf67,
  v32 := Try.zeroValue67,
  t35 := Try.underlying70,
  a35 := Try.isAgg70,
  z35 := Try.sizeOf70,
  v35 := Try.zeroValue70,
  t36 := Try.underlying71,
  a36 := Try.isAgg71,
  z36 := Try.sizeOf71,
  v36 := Try.zeroValue71,
  t41 := Try.underlying76,
  a41 := Try.isAgg76,
  z41 := Try.sizeOf76,
  v41 := Try.zeroValue76,
  t44 := Try.underlying79,
  a44 := Try.isAgg79,
  z44 := Try.sizeOf79,
  v44 := Try.zeroValue79,
  t46 := Try.underlying81,
  a46 := Try.isAgg81,
  z46 := Try.sizeOf81,
  v46 := Try.zeroValue81,
  t53 := Try.underlying82,
  a53 := Try.isAgg82,
  z53 := Try.sizeOf82,
  v53 := Try.zeroValue82,
  t57 := Try.underlying86,
  a57 := Try.isAgg86,
  z57 := Try.sizeOf86,
  v57 := Try.zeroValue86,
  t63 := Try.underlying88,
  a63 := Try.isAgg88,
  z63 := Try.sizeOf88,
  v63 := Try.zeroValue88,
  t64 := Try.underlying89,
  a64 := Try.isAgg89,
  z64 := Try.sizeOf89,
  v64 := Try.zeroValue89 }

/-- slices.Sort's two contracts at this dump, at the fence that asks nothing. -/
theorem Try.sorts20 (m : Nat) : AnyZ.SortsIn Try.prog Try.sorted20_ren Fence.wide m :=
  ⟨fun blk off cap ss W hH hblk hsz => callsIn_wide.2 (AnyM.slices_Sort_string Try.sort30 blk off cap ss W hH hblk hsz),
   fun p cap W => callsIn_wide.2 (AnyM.slices_Sort_string_none Try.sort30 p cap W)⟩

/-- **maps.Keys[map[string]int64,string,int64], at whatever map, the nil one too:** a function value over ONE NEW BLOCK, which holds the map. -/
theorem Try.maps_Keys_21 (mb : Option Nat) (W : World) : CallsIn Fence.wide 5 Try.prog 21 #[.map mb] W fun e w' => e = .returned (.func (.func 31) #[] #[.pointer (some ⟨W.heap.size, 0, none⟩)]) ∧ w' = W.alloc (.cells #[.map mb] 48) :=
  AnyZ.keys_in Try.keys21 Fence.wide 5 trivial rfl mb W

set_option maxHeartbeats 1000000 in
/-- **slices.Sorted[string] AT WHAT maps.Keys[map[string]int64,string,int64] HANDED BACK FOR A MAP THAT IS NOT nil** ('w': the world AHEAD of maps.Keys' call): A NEW SLICE THAT HOLDS THE MAP's KEYS, SORTED; nil just where it has none; nothing that lay before has turned. -/
theorem Try.slices_Sorted_keys_20_21 {H : Type} (b nn : Nat) (D0 : DataW H) (R : Value → Option (DataW H × List MemPlace)) (w : World) (hown : w.ownsMap Try.prog 9 R b nn D0) (hmax : Maps.size D0 ≤ maxLen) (hbytes : Maps.size D0 * 16 ≤ 140737488355328) :
    CallsIn Fence.wide 5 Try.prog 20 #[.func (.func 31) #[] #[.pointer (some ⟨w.heap.size, 0, none⟩)]] (w.alloc (.cells #[.map (some b)] 48)) fun e w' => ∃ (v : Value) (ss : List (List UInt8)), e = .returned v ∧ ss.Perm (strKeys D0) ∧
      w'.ownsRow (w.alloc (.cells #[.map (some b)] 48)).heap.size 9 1 v ss.length ((ss.mergeSort (fun x y => decide (x ≤ y))).map encStr) ∧ (v = .slice none 0 0 ↔ ss = []) ∧ Below (w.alloc (.cells #[.map (some b)] 48)).heap.size (w.alloc (.cells #[.map (some b)] 48)) w' := by
  have hbl := hown.lt
  have hseq : SeqGives Fence.wide 2 Try.prog 31 #[.pointer (some ⟨w.heap.size, 0, none⟩)] encStr (fun ss => ss.Perm (strKeys D0)) (Maps.size D0) (w.alloc (.cells #[.map (some b)] 48)) :=
    AnyZ.keys_gives (ρ := Try.keys21_ren) { Try.keys21 with } Fence.wide _ trivial rfl (by omega) w.heap.size b nn D0 _ (by simp) (by simp) (by
      obtain ⟨es, clock, hb, Ft, hs, hD⟩ := hown
      exact ⟨es, clock, (Below.heap_alloc _ _ b hbl).trans hb, Ft, hs, hD⟩)
  exact AnyZ.sorted_in Try.sorted20 Fence.wide 5 trivial trivial trivial trivial rfl (by omega) (Try.sorts20 _) (enters_of Try.func30 (by kernel_rfl) rfl) 31 #[.pointer (some ⟨w.heap.size, 0, none⟩)] trivial (enters_of Try.func31 (by kernel_rfl) rfl) _ _ hmax hbytes _ hseq

set_option maxHeartbeats 1000000 in
/-- **.. AND FOR THE nil MAP: nil.** -/
theorem Try.slices_Sorted_keys_nil_20_21 (w : World) :
    CallsIn Fence.wide 5 Try.prog 20 #[.func (.func 31) #[] #[.pointer (some ⟨w.heap.size, 0, none⟩)]] (w.alloc (.cells #[.map none] 48)) fun e w' => ∃ (v : Value) (ss : List (List UInt8)), e = .returned v ∧ ss = [] ∧
      w'.ownsRow (w.alloc (.cells #[.map none] 48)).heap.size 9 1 v ss.length ((ss.mergeSort (fun x y => decide (x ≤ y))).map encStr) ∧ (v = .slice none 0 0 ↔ ss = []) ∧ Below (w.alloc (.cells #[.map none] 48)).heap.size (w.alloc (.cells #[.map none] 48)) w' := by
  have hseq : SeqGives Fence.wide 2 Try.prog 31 #[.pointer (some ⟨w.heap.size, 0, none⟩)] encStr (fun ss : List (List UInt8) => ss = []) 0 (w.alloc (.cells #[.map none] 48)) :=
    AnyZ.keys_gives_nil (ρ := Try.keys21_ren) { Try.keys21 with } Fence.wide _ trivial rfl w.heap.size _ (by simp) (by simp)
  exact AnyZ.sorted_in Try.sorted20 Fence.wide 5 trivial trivial trivial trivial rfl (by omega) (Try.sorts20 _) (enters_of Try.func30 (by kernel_rfl) rfl) 31 #[.pointer (some ⟨w.heap.size, 0, none⟩)] trivial (enters_of Try.func31 (by kernel_rfl) rfl) _ 0 (Nat.zero_le _) (by omega) _ hseq

-- THE CALLER's WALK over 'slices.Sorted(maps.Keys(m))' (inside '(callsIn_wide (n := 6)).1'; 'have hfK : Fence.wide.fn 21 := trivial', 'have hfS : Fence.wide.fn 20 := trivial' ahead): THE TWO ARMS TO PASTE:
--   gi_wp2_with (first
--     | (gi_at_call 21; refine (Try.maps_Keys_21 _ _).mono ?_; rintro e w' ⟨rfl, rfl⟩)
--     | (gi_at_call 20; refine (Try.slices_Sorted_keys_20_21 b nn D0 R w hown hmax hbytes).mono ?_; rintro e w' ⟨v, ss, rfl, hS, hrow, hnil, hb⟩))


end Go.Proofs
