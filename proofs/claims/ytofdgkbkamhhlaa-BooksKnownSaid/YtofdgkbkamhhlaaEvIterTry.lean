/-
  DERIVED. MADE BY PROGRAM (lay-iter.mjs) off ytofdgkbkamhhlaa.cut.gsa: THE SHELF's CONTRACTS ON 'slices.Sorted(maps.Keys(m))' LAID AT THIS DUMP: 1 map type. NO WALK OF THE LIBRARY's TEXT: each is one application of a contract over any P and ρ (Derived/Shelf/SlIter/, Derived/Shelf/SortM/).
-/
import Derived.Shelf.SlIter.Nil
import Derived.Shelf.SortM.Plain
import Derived.Shelf.SortM.SortNone
import Derived.Ground.GgzProg
import Derived.Ground.SlgmProg
import Derived.Test.YtofdgkbkamhhlaaProg
namespace Go.Proofs
open Go.RowKit Go.Maps Go.Sort Go.Shelf

-- maps.Keys[map[string]int64,string,int64] (function 49; its iterator 67) · slices.Sorted[string] (48) · slices.Sort[[]string,string] (66) · the map's type 88, the keys' 9
def Try.keys49_ren : Go.Shelf.Ren := ⟨fun | 7 => 49 | 10 => 67 | n => n, fun | 23 => 88 | 26 => 9 | 3 => 2 | 28 => 95 | 0 => 0 | 27 => 94 | 33 => 97 | 4 => 4 | n => n, fun | n => n⟩
theorem Try.keys49 : Go.Proofs.SlLaysZ.n7 Try.prog Try.keys49_ren := {
  mixed := by kernel_rfl,
  f7 := ⟨Try.f49.name, by decide, Try.func49.trans (congrArg some (by kernel_rfl))⟩,
  f10 := ⟨Try.f67.name, by decide, Try.func67.trans (congrArg some (by kernel_rfl))⟩,
  t0 := Try.underlying0,
  a0 := Try.isAgg0,
  z0 := Try.sizeOf0,
  v0 := Try.zeroValue0,
  t4 := Try.underlying4,
  a4 := Try.isAgg4,
  z4 := Try.sizeOf4,
  v4 := Try.zeroValue4,
  t23 := Try.underlying88,
  a23 := Try.isAgg88,
  z23 := Try.sizeOf88,
  v23 := Try.zeroValue88,
  t26 := Try.underlying9,
  a26 := Try.isAgg9,
  z26 := Try.sizeOf9,
  v26 := Try.zeroValue9,
  t27 := Try.underlying94,
  a27 := Try.isAgg94,
  z27 := Try.sizeOf94,
  v27 := Try.zeroValue94,
  t28 := Try.underlying95,
  a28 := Try.isAgg95,
  z28 := Try.sizeOf95,
  v28 := Try.zeroValue95,
  t33 := Try.underlying97,
  a33 := Try.isAgg97,
  z33 := Try.sizeOf97,
  v33 := Try.zeroValue97 }
def Try.sorted48_ren : Go.Shelf.Ren := ⟨fun | 6 => 48 | 8 => 65 | 9 => 66 | 11 => 98 | 13 => 100 | 12 => 99 | 23 => 127 | 24 => 128 | 14 => 118 | 15 => 119 | 16 => 120 | 17 => 121 | 18 => 122 | 19 => 123 | 20 => 124 | 21 => 125 | 22 => 126 | 25 => 135 | 26 => 136 | 27 => 137 | 28 => 138 | 29 => 139 | 30 => 140 | 31 => 147 | n => n, fun | 26 => 9 | 28 => 95 | 24 => 39 | 0 => 0 | 3 => 3 | 37 => 147 | 48 => 166 | 50 => 168 | 4 => 4 | 40 => 159 | 39 => 158 | 45 => 153 | 5 => 5 | 9 => 9 | 51 => 177 | 55 => 181 | 57 => 191 | 58 => 36 | 33 => 97 | n => n, fun | n => n⟩
theorem Try.sorted48 : Go.Proofs.SlLaysZ.n6 Try.prog Try.sorted48_ren := {
  mixed := by kernel_rfl,
  f6 := ⟨Try.f48.name, by decide, Try.func48.trans (congrArg some (by kernel_rfl))⟩,
  f8 := ⟨Try.f65.name, by decide, Try.func65.trans (congrArg some (by kernel_rfl))⟩,
  f11 := ⟨Try.f98.name, by decide, Try.func98.trans (congrArg some (by kernel_rfl))⟩,
  t0 := Try.underlying0,
  a0 := Try.isAgg0,
  z0 := Try.sizeOf0,
  v0 := Try.zeroValue0,
  t24 := Try.underlying39,
  a24 := Try.isAgg39,
  z24 := Try.sizeOf39,
  v24 := Try.zeroValue39,
  t26 := Try.underlying9,
  a26 := Try.isAgg9,
  z26 := Try.sizeOf9,
  v26 := Try.zeroValue9,
  t28 := Try.underlying95,
  a28 := Try.isAgg95,
  z28 := Try.sizeOf95,
  v28 := Try.zeroValue95,
  i26 := by kernel_rfl }
def Try.sort66_ren : Go.Shelf.Ren := ⟨fun | 6 => 66 | 8 => 100 | 9 => 99 | 19 => 127 | 20 => 128 | 21 => 118 | 22 => 119 | 23 => 120 | 24 => 121 | 25 => 122 | 26 => 123 | 27 => 124 | 28 => 125 | 29 => 126 | 36 => 135 | 31 => 136 | 32 => 137 | 37 => 138 | 38 => 139 | 39 => 140 | 41 => 147 | n => n, fun | 27 => 39 | 29 => 9 | 3 => 3 | 32 => 147 | 26 => 39 | 0 => 0 | 44 => 166 | 46 => 168 | 4 => 4 | 36 => 159 | 35 => 158 | 41 => 153 | 5 => 5 | 9 => 9 | 53 => 177 | 57 => 181 | 63 => 191 | 64 => 36 | n => n, fun | n => n⟩
theorem Try.sort66 : Go.Proofs.SlLaysM.n6 Try.prog Try.sort66_ren := {
  mixed := by kernel_rfl,
  f6 := ⟨Try.f66.name, by decide, Try.func66.trans (congrArg some (by kernel_rfl))⟩,
  f8 := Try.func100.trans (congrArg some (by kernel_rfl)),
  f9 := ⟨Try.f99.name, by decide, Try.func99.trans (congrArg some (by kernel_rfl))⟩,
  f19 := Try.func127.trans (congrArg some (by kernel_rfl)),
  f20 := Try.func128.trans (congrArg some (by kernel_rfl)),
  f21 := ⟨Try.f118.name, by decide, Try.func118.trans (congrArg some (by kernel_rfl))⟩,
  f22 := ⟨Try.f119.name, by decide, Try.func119.trans (congrArg some (by kernel_rfl))⟩,
  f23 := ⟨Try.f120.name, by decide, Try.func120.trans (congrArg some (by kernel_rfl))⟩,
  f24 := ⟨Try.f121.name, by decide, Try.func121.trans (congrArg some (by kernel_rfl))⟩,
  f25 := ⟨Try.f122.name, by decide, Try.func122.trans (congrArg some (by kernel_rfl))⟩,
  f26 := ⟨Try.f123.name, by decide, Try.func123.trans (congrArg some (by kernel_rfl))⟩,
  f27 := ⟨Try.f124.name, by decide, Try.func124.trans (congrArg some (by kernel_rfl))⟩,
  f28 := ⟨Try.f125.name, by decide, Try.func125.trans (congrArg some (by kernel_rfl))⟩,
  f29 := ⟨Try.f126.name, by decide, Try.func126.trans (congrArg some (by kernel_rfl))⟩,
  f31 := Try.func136.trans (congrArg some (by kernel_rfl)),
  f32 := Try.func137.trans (congrArg some (by kernel_rfl)),
  f36 := ⟨Try.f135.name, by decide, Try.func135.trans (congrArg some (by kernel_rfl))⟩,
  f37 := ⟨Try.f138.name, by decide, Try.func138.trans (congrArg some (by kernel_rfl))⟩,
  f38 := ⟨Try.f139.name, by decide, Try.func139.trans (congrArg some (by kernel_rfl))⟩,
  f39 := ⟨Try.f140.name, by decide, Try.func140.trans (congrArg some (by kernel_rfl))⟩,
  f41 := ⟨Try.f147.name, by decide, Try.func147.trans (congrArg some (by kernel_rfl))⟩,
  t0 := Try.underlying0,
  a0 := Try.isAgg0,
  z0 := Try.sizeOf0,
  v0 := Try.zeroValue0,
  t3 := Try.underlying3,
  a3 := Try.isAgg3,
  z3 := Try.sizeOf3,
  v3 := Try.zeroValue3,
  t4 := Try.underlying4,
  a4 := Try.isAgg4,
  z4 := Try.sizeOf4,
  v4 := Try.zeroValue4,
  t5 := Try.underlying5,
  a5 := Try.isAgg5,
  z5 := Try.sizeOf5,
  v5 := Try.zeroValue5,
  t9 := Try.underlying9,
  a9 := Try.isAgg9,
  z9 := Try.sizeOf9,
  v9 := Try.zeroValue9,
  t26 := Try.underlying39,
  a26 := Try.isAgg39,
  z26 := Try.sizeOf39,
  v26 := Try.zeroValue39,
  t27 := Try.underlying39,
  a27 := Try.isAgg39,
  z27 := Try.sizeOf39,
  v27 := Try.zeroValue39,
  t29 := Try.underlying9,
  a29 := Try.isAgg9,
  z29 := Try.sizeOf9,
  v29 := Try.zeroValue9,
  t32 := Try.underlying147,
  a32 := Try.isAgg147,
  z32 := Try.sizeOf147,
  v32 := Try.zeroValue147,
  t35 := Try.underlying158,
  a35 := Try.isAgg158,
  z35 := Try.sizeOf158,
  v35 := Try.zeroValue158,
  t36 := Try.underlying159,
  a36 := Try.isAgg159,
  z36 := Try.sizeOf159,
  v36 := Try.zeroValue159,
  t41 := Try.underlying153,
  a41 := Try.isAgg153,
  z41 := Try.sizeOf153,
  v41 := Try.zeroValue153,
  t44 := Try.underlying166,
  a44 := Try.isAgg166,
  z44 := Try.sizeOf166,
  v44 := Try.zeroValue166,
  t46 := Try.underlying168,
  a46 := Try.isAgg168,
  z46 := Try.sizeOf168,
  v46 := Try.zeroValue168,
  t53 := Try.underlying177,
  a53 := Try.isAgg177,
  z53 := Try.sizeOf177,
  v53 := Try.zeroValue177,
  t57 := Try.underlying181,
  a57 := Try.isAgg181,
  z57 := Try.sizeOf181,
  v57 := Try.zeroValue181,
  t63 := Try.underlying191,
  a63 := Try.isAgg191,
  z63 := Try.sizeOf191,
  v63 := Try.zeroValue191,
  t64 := Try.underlying36,
  a64 := Try.isAgg36,
  z64 := Try.sizeOf36,
  v64 := Try.zeroValue36 }

/-- slices.Sort's two contracts at this dump, at the fence that asks nothing. -/
theorem Try.sorts48 (m : Nat) : AnyZ.SortsIn Try.prog Try.sorted48_ren Fence.wide m :=
  ⟨fun blk off cap ss W hH hblk hsz => callsIn_wide.2 (AnyM.slices_Sort_string Try.sort66 blk off cap ss W hH hblk hsz),
   fun p cap W => callsIn_wide.2 (AnyM.slices_Sort_string_none Try.sort66 p cap W)⟩

/-- **maps.Keys[map[string]int64,string,int64], at whatever map, the nil one too:** a function value over ONE NEW BLOCK, which holds the map. -/
theorem Try.maps_Keys_49 (mb : Option Nat) (W : World) : CallsIn Fence.wide 5 Try.prog 49 #[.map mb] W fun e w' => e = .returned (.func (.func 67) #[] #[.pointer (some ⟨W.heap.size, 0, none⟩)]) ∧ w' = W.alloc (.cells #[.map mb] 88) :=
  AnyZ.keys_in Try.keys49 Fence.wide 5 trivial rfl mb W

set_option maxHeartbeats 1000000 in
/-- **slices.Sorted[string] AT WHAT maps.Keys[map[string]int64,string,int64] HANDED BACK FOR A MAP THAT IS NOT nil** ('w': the world AHEAD of maps.Keys' call): A NEW SLICE THAT HOLDS THE MAP's KEYS, SORTED; nil just where it has none; nothing that lay before has turned. -/
theorem Try.slices_Sorted_keys_48_49 {H : Type} (b nn : Nat) (D0 : DataW H) (R : Value → Option (DataW H × List MemPlace)) (w : World) (hown : w.ownsMap Try.prog 9 R b nn D0) (hmax : Maps.size D0 ≤ maxLen) (hbytes : Maps.size D0 * 16 ≤ 140737488355328) :
    CallsIn Fence.wide 5 Try.prog 48 #[.func (.func 67) #[] #[.pointer (some ⟨w.heap.size, 0, none⟩)]] (w.alloc (.cells #[.map (some b)] 88)) fun e w' => ∃ (v : Value) (ss : List (List UInt8)), e = .returned v ∧ ss.Perm (strKeys D0) ∧
      w'.ownsRow (w.alloc (.cells #[.map (some b)] 88)).heap.size 9 1 v ss.length ((ss.mergeSort (fun x y => decide (x ≤ y))).map encStr) ∧ (v = .slice none 0 0 ↔ ss = []) ∧ Below (w.alloc (.cells #[.map (some b)] 88)).heap.size (w.alloc (.cells #[.map (some b)] 88)) w' := by
  have hbl := hown.lt
  have hseq : SeqGives Fence.wide 2 Try.prog 67 #[.pointer (some ⟨w.heap.size, 0, none⟩)] encStr (fun ss => ss.Perm (strKeys D0)) (Maps.size D0) (w.alloc (.cells #[.map (some b)] 88)) :=
    AnyZ.keys_gives (ρ := Try.keys49_ren) { Try.keys49 with } Fence.wide _ trivial rfl (by omega) w.heap.size b nn D0 _ (by simp) (by simp) (by
      obtain ⟨es, clock, hb, Ft, hs, hD⟩ := hown
      exact ⟨es, clock, (Below.heap_alloc _ _ b hbl).trans hb, Ft, hs, hD⟩)
  exact AnyZ.sorted_in Try.sorted48 Fence.wide 5 trivial trivial trivial trivial rfl (by omega) (Try.sorts48 _) (enters_of Try.func66 (by kernel_rfl) rfl) 67 #[.pointer (some ⟨w.heap.size, 0, none⟩)] trivial (enters_of Try.func67 (by kernel_rfl) rfl) _ _ hmax hbytes _ hseq

set_option maxHeartbeats 1000000 in
/-- **.. AND FOR THE nil MAP: nil.** -/
theorem Try.slices_Sorted_keys_nil_48_49 (w : World) :
    CallsIn Fence.wide 5 Try.prog 48 #[.func (.func 67) #[] #[.pointer (some ⟨w.heap.size, 0, none⟩)]] (w.alloc (.cells #[.map none] 88)) fun e w' => ∃ (v : Value) (ss : List (List UInt8)), e = .returned v ∧ ss = [] ∧
      w'.ownsRow (w.alloc (.cells #[.map none] 88)).heap.size 9 1 v ss.length ((ss.mergeSort (fun x y => decide (x ≤ y))).map encStr) ∧ (v = .slice none 0 0 ↔ ss = []) ∧ Below (w.alloc (.cells #[.map none] 88)).heap.size (w.alloc (.cells #[.map none] 88)) w' := by
  have hseq : SeqGives Fence.wide 2 Try.prog 67 #[.pointer (some ⟨w.heap.size, 0, none⟩)] encStr (fun ss : List (List UInt8) => ss = []) 0 (w.alloc (.cells #[.map none] 88)) :=
    AnyZ.keys_gives_nil (ρ := Try.keys49_ren) { Try.keys49 with } Fence.wide _ trivial rfl w.heap.size _ (by simp) (by simp)
  exact AnyZ.sorted_in Try.sorted48 Fence.wide 5 trivial trivial trivial trivial rfl (by omega) (Try.sorts48 _) (enters_of Try.func66 (by kernel_rfl) rfl) 67 #[.pointer (some ⟨w.heap.size, 0, none⟩)] trivial (enters_of Try.func67 (by kernel_rfl) rfl) _ 0 (Nat.zero_le _) (by omega) _ hseq

-- THE CALLER's WALK over 'slices.Sorted(maps.Keys(m))' (inside '(callsIn_wide (n := 6)).1'; 'have hfK : Fence.wide.fn 49 := trivial', 'have hfS : Fence.wide.fn 48 := trivial' ahead): THE TWO ARMS TO PASTE:
--   gi_wp2_with (first
--     | (gi_at_call 49; refine (Try.maps_Keys_49 _ _).mono ?_; rintro e w' ⟨rfl, rfl⟩)
--     | (gi_at_call 48; refine (Try.slices_Sorted_keys_48_49 b nn D0 R w hown hmax hbytes).mono ?_; rintro e w' ⟨v, ss, rfl, hS, hrow, hnil, hb⟩))


end Go.Proofs
