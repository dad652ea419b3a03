/-
  DERIVED. MADE BY PROGRAM (lay-iter.mjs) off ytmmaicjkkcljhabgreat.cut.gsa: THE SHELF's CONTRACTS ON 'slices.Sorted(maps.Keys(m))' LAID AT THIS DUMP: 1 map type. NO WALK OF THE LIBRARY's TEXT: each is one application of a contract over any P and ρ (Derived/Shelf/SlIter/, Derived/Shelf/SortM/).
-/
import Derived.Shelf.SlIter.Nil
import Derived.Shelf.SortM.Plain
import Derived.Shelf.SortM.SortNone
import Derived.Ground.GgzProg
import Derived.Ground.SlgmProg
import Derived.Test.YtmmaicjkkcljhabGreatProg
namespace Go.Proofs
open Go.RowKit Go.Maps Go.Sort Go.Shelf

-- maps.Keys[map[string]bool,string,bool] (function 82; its iterator 103) · slices.Sorted[string] (81) · slices.Sort[[]string,string] (102) · the map's type 88, the keys' 9
def Tryz.keys82_ren : Go.Shelf.Ren := ⟨fun | 7 => 82 | 10 => 103 | n => n, fun | 23 => 88 | 26 => 9 | 3 => 4 | 28 => 127 | 0 => 0 | 27 => 126 | 33 => 89 | 4 => 4 | n => n, fun | n => n⟩
theorem Tryz.keys82 : Go.Proofs.SlLaysZ.n7 Tryz.prog Tryz.keys82_ren := {
  mixed := by kernel_rfl,
  f7 := ⟨Tryz.f82.name, by decide, Tryz.func82.trans (congrArg some (by kernel_rfl))⟩,
  f10 := ⟨Tryz.f103.name, by decide, Tryz.func103.trans (congrArg some (by kernel_rfl))⟩,
  t0 := Tryz.underlying0,
  a0 := Tryz.isAgg0,
  z0 := Tryz.sizeOf0,
  v0 := Tryz.zeroValue0,
  t4 := Tryz.underlying4,
  a4 := Tryz.isAgg4,
  z4 := Tryz.sizeOf4,
  v4 := Tryz.zeroValue4,
  t23 := Tryz.underlying88,
  a23 := Tryz.isAgg88,
  z23 := Tryz.sizeOf88,
  v23 := Tryz.zeroValue88,
  t26 := Tryz.underlying9,
  a26 := Tryz.isAgg9,
  z26 := Tryz.sizeOf9,
  v26 := Tryz.zeroValue9,
  t27 := Tryz.underlying126,
  a27 := Tryz.isAgg126,
  z27 := Tryz.sizeOf126,
  v27 := Tryz.zeroValue126,
  t28 := Tryz.underlying127,
  a28 := Tryz.isAgg127,
  z28 := Tryz.sizeOf127,
  v28 := Tryz.zeroValue127,
  t33 := Tryz.underlying89,
  a33 := Tryz.isAgg89,
  z33 := Tryz.sizeOf89,
  v33 := Tryz.zeroValue89 }
def Tryz.sorted81_ren : Go.Shelf.Ren := ⟨fun | 6 => 81 | 8 => 101 | 9 => 102 | 11 => 117 | 13 => 119 | 12 => 118 | 23 => 139 | 24 => 140 | 14 => 130 | 15 => 131 | 16 => 132 | 17 => 133 | 18 => 134 | 19 => 135 | 20 => 136 | 21 => 137 | 22 => 138 | 25 => 144 | 26 => 145 | 27 => 146 | 28 => 147 | 29 => 148 | 30 => 149 | 31 => 150 | n => n, fun | 26 => 9 | 28 => 127 | 24 => 49 | 0 => 0 | 3 => 3 | 37 => 153 | 48 => 190 | 50 => 137 | 4 => 4 | 40 => 183 | 39 => 182 | 45 => 143 | 5 => 5 | 9 => 9 | 51 => 193 | 55 => 197 | 57 => 199 | 58 => 200 | 33 => 89 | n => n, fun | n => n⟩
theorem Tryz.sorted81 : Go.Proofs.SlLaysZ.n6 Tryz.prog Tryz.sorted81_ren := {
  mixed := by kernel_rfl,
  f6 := ⟨Tryz.f81.name, by decide, Tryz.func81.trans (congrArg some (by kernel_rfl))⟩,
  f8 := ⟨Tryz.f101.name, by decide, Tryz.func101.trans (congrArg some (by kernel_rfl))⟩,
  f11 := ⟨Tryz.f117.name, by decide, Tryz.func117.trans (congrArg some (by kernel_rfl))⟩,
  t0 := Tryz.underlying0,
  a0 := Tryz.isAgg0,
  z0 := Tryz.sizeOf0,
  v0 := Tryz.zeroValue0,
  t24 := Tryz.underlying49,
  a24 := Tryz.isAgg49,
  z24 := Tryz.sizeOf49,
  v24 := Tryz.zeroValue49,
  t26 := Tryz.underlying9,
  a26 := Tryz.isAgg9,
  z26 := Tryz.sizeOf9,
  v26 := Tryz.zeroValue9,
  t28 := Tryz.underlying127,
  a28 := Tryz.isAgg127,
  z28 := Tryz.sizeOf127,
  v28 := Tryz.zeroValue127,
  i26 := by kernel_rfl }
def Tryz.sort102_ren : Go.Shelf.Ren := ⟨fun | 6 => 102 | 8 => 119 | 9 => 118 | 19 => 139 | 20 => 140 | 21 => 130 | 22 => 131 | 23 => 132 | 24 => 133 | 25 => 134 | 26 => 135 | 27 => 136 | 28 => 137 | 29 => 138 | 36 => 144 | 31 => 145 | 32 => 146 | 37 => 147 | 38 => 148 | 39 => 149 | 41 => 150 | n => n, fun | 27 => 49 | 29 => 9 | 3 => 3 | 32 => 153 | 26 => 49 | 0 => 0 | 44 => 190 | 46 => 137 | 4 => 4 | 36 => 183 | 35 => 182 | 41 => 143 | 5 => 5 | 9 => 9 | 53 => 193 | 57 => 197 | 63 => 199 | 64 => 200 | n => n, fun | n => n⟩
theorem Tryz.sort102 : Go.Proofs.SlLaysM.n6 Tryz.prog Tryz.sort102_ren := {
  mixed := by kernel_rfl,
  f6 := ⟨Tryz.f102.name, by decide, Tryz.func102.trans (congrArg some (by kernel_rfl))⟩,
  f8 := Tryz.func119.trans (congrArg some (by kernel_rfl)),
  f9 := ⟨Tryz.f118.name, by decide, Tryz.func118.trans (congrArg some (by kernel_rfl))⟩,
  f19 := Tryz.func139.trans (congrArg some (by kernel_rfl)),
  f20 := Tryz.func140.trans (congrArg some (by kernel_rfl)),
  f21 := ⟨Tryz.f130.name, by decide, Tryz.func130.trans (congrArg some (by kernel_rfl))⟩,
  f22 := ⟨Tryz.f131.name, by decide, Tryz.func131.trans (congrArg some (by kernel_rfl))⟩,
  f23 := ⟨Tryz.f132.name, by decide, Tryz.func132.trans (congrArg some (by kernel_rfl))⟩,
  f24 := ⟨Tryz.f133.name, by decide, Tryz.func133.trans (congrArg some (by kernel_rfl))⟩,
  f25 := ⟨Tryz.f134.name, by decide, Tryz.func134.trans (congrArg some (by kernel_rfl))⟩,
  f26 := ⟨Tryz.f135.name, by decide, Tryz.func135.trans (congrArg some (by kernel_rfl))⟩,
  f27 := ⟨Tryz.f136.name, by decide, Tryz.func136.trans (congrArg some (by kernel_rfl))⟩,
  f28 := ⟨Tryz.f137.name, by decide, Tryz.func137.trans (congrArg some (by kernel_rfl))⟩,
  f29 := ⟨Tryz.f138.name, by decide, Tryz.func138.trans (congrArg some (by kernel_rfl))⟩,
  f31 := Tryz.func145.trans (congrArg some (by kernel_rfl)),
  f32 := Tryz.func146.trans (congrArg some (by kernel_rfl)),
  f36 := ⟨Tryz.f144.name, by decide, Tryz.func144.trans (congrArg some (by kernel_rfl))⟩,
  f37 := ⟨Tryz.f147.name, by decide, Tryz.func147.trans (congrArg some (by kernel_rfl))⟩,
  f38 := ⟨Tryz.f148.name, by decide, Tryz.func148.trans (congrArg some (by kernel_rfl))⟩,
  f39 := ⟨Tryz.f149.name, by decide, Tryz.func149.trans (congrArg some (by kernel_rfl))⟩,
  f41 := ⟨Tryz.f150.name, by decide, Tryz.func150.trans (congrArg some (by kernel_rfl))⟩,
  t0 := Tryz.underlying0,
  a0 := Tryz.isAgg0,
  z0 := Tryz.sizeOf0,
  v0 := Tryz.zeroValue0,
  t3 := Tryz.underlying3,
  a3 := Tryz.isAgg3,
  z3 := Tryz.sizeOf3,
  v3 := Tryz.zeroValue3,
  t4 := Tryz.underlying4,
  a4 := Tryz.isAgg4,
  z4 := Tryz.sizeOf4,
  v4 := Tryz.zeroValue4,
  t5 := Tryz.underlying5,
  a5 := Tryz.isAgg5,
  z5 := Tryz.sizeOf5,
  v5 := Tryz.zeroValue5,
  t9 := Tryz.underlying9,
  a9 := Tryz.isAgg9,
  z9 := Tryz.sizeOf9,
  v9 := Tryz.zeroValue9,
  t26 := Tryz.underlying49,
  a26 := Tryz.isAgg49,
  z26 := Tryz.sizeOf49,
  v26 := Tryz.zeroValue49,
  t27 := Tryz.underlying49,
  a27 := Tryz.isAgg49,
  z27 := Tryz.sizeOf49,
  v27 := Tryz.zeroValue49,
  t29 := Tryz.underlying9,
  a29 := Tryz.isAgg9,
  z29 := Tryz.sizeOf9,
  v29 := Tryz.zeroValue9,
  t32 := Tryz.underlying153,
  a32 := Tryz.isAgg153,
  z32 := Tryz.sizeOf153,
  v32 := Tryz.zeroValue153,
  t35 := Tryz.underlying182,
  a35 := Tryz.isAgg182,
  z35 := Tryz.sizeOf182,
  v35 := Tryz.zeroValue182,
  t36 := Tryz.underlying183,
  a36 := Tryz.isAgg183,
  z36 := Tryz.sizeOf183,
  v36 := Tryz.zeroValue183,
  t41 := Tryz.underlying143,
  a41 := Tryz.isAgg143,
  z41 := Tryz.sizeOf143,
  v41 := Tryz.zeroValue143,
  t44 := Tryz.underlying190,
  a44 := Tryz.isAgg190,
  z44 := Tryz.sizeOf190,
  v44 := Tryz.zeroValue190,
  t46 := Tryz.underlying137,
  a46 := Tryz.isAgg137,
  z46 := Tryz.sizeOf137,
  v46 := Tryz.zeroValue137,
  t53 := Tryz.underlying193,
  a53 := Tryz.isAgg193,
  z53 := Tryz.sizeOf193,
  v53 := Tryz.zeroValue193,
  t57 := Tryz.underlying197,
  a57 := Tryz.isAgg197,
  z57 := Tryz.sizeOf197,
  v57 := Tryz.zeroValue197,
  t63 := Tryz.underlying199,
  a63 := Tryz.isAgg199,
  z63 := Tryz.sizeOf199,
  v63 := Tryz.zeroValue199,
  t64 := Tryz.underlying200,
  a64 := Tryz.isAgg200,
  z64 := Tryz.sizeOf200,
  v64 := Tryz.zeroValue200 }

/-- slices.Sort's two contracts at this dump, at the fence that asks nothing. -/
theorem Tryz.sorts81 (m : Nat) : AnyZ.SortsIn Tryz.prog Tryz.sorted81_ren Fence.wide m :=
  ⟨fun blk off cap ss W hH hblk hsz => callsIn_wide.2 (AnyM.slices_Sort_string Tryz.sort102 blk off cap ss W hH hblk hsz),
   fun p cap W => callsIn_wide.2 (AnyM.slices_Sort_string_none Tryz.sort102 p cap W)⟩

/-- **maps.Keys[map[string]bool,string,bool], at whatever map, the nil one too:** a function value over ONE NEW BLOCK, which holds the map. -/
theorem Tryz.maps_Keys_82 (mb : Option Nat) (W : World) : CallsIn Fence.wide 5 Tryz.prog 82 #[.map mb] W fun e w' => e = .returned (.func (.func 103) #[] #[.pointer (some ⟨W.heap.size, 0, none⟩)]) ∧ w' = W.alloc (.cells #[.map mb] 88) :=
  AnyZ.keys_in Tryz.keys82 Fence.wide 5 trivial rfl mb W

set_option maxHeartbeats 1000000 in
/-- **slices.Sorted[string] AT WHAT maps.Keys[map[string]bool,string,bool] HANDED BACK FOR A MAP THAT IS NOT nil** ('w': the world AHEAD of maps.Keys' call): A NEW SLICE THAT HOLDS THE MAP's KEYS, SORTED; nil just where it has none; nothing that lay before has turned. -/
theorem Tryz.slices_Sorted_keys_81_82 {H : Type} (b nn : Nat) (D0 : DataW H) (R : Value → Option (DataW H × List MemPlace)) (w : World) (hown : w.ownsMap Tryz.prog 9 R b nn D0) (hmax : Maps.size D0 ≤ maxLen) (hbytes : Maps.size D0 * 16 ≤ 140737488355328) :
    CallsIn Fence.wide 5 Tryz.prog 81 #[.func (.func 103) #[] #[.pointer (some ⟨w.heap.size, 0, none⟩)]] (w.alloc (.cells #[.map (some b)] 88)) fun e w' => ∃ (v : Value) (ss : List (List UInt8)), e = .returned v ∧ ss.Perm (strKeys D0) ∧
      w'.ownsRow (w.alloc (.cells #[.map (some b)] 88)).heap.size 9 1 v ss.length ((ss.mergeSort (fun x y => decide (x ≤ y))).map encStr) ∧ (v = .slice none 0 0 ↔ ss = []) ∧ Below (w.alloc (.cells #[.map (some b)] 88)).heap.size (w.alloc (.cells #[.map (some b)] 88)) w' := by
  have hbl := hown.lt
  have hseq : SeqGives Fence.wide 2 Tryz.prog 103 #[.pointer (some ⟨w.heap.size, 0, none⟩)] encStr (fun ss => ss.Perm (strKeys D0)) (Maps.size D0) (w.alloc (.cells #[.map (some b)] 88)) :=
    AnyZ.keys_gives (ρ := Tryz.keys82_ren) { Tryz.keys82 with } Fence.wide _ trivial rfl (by omega) w.heap.size b nn D0 _ (by simp) (by simp) (by
      obtain ⟨es, clock, hb, Ft, hs, hD⟩ := hown
      exact ⟨es, clock, (Below.heap_alloc _ _ b hbl).trans hb, Ft, hs, hD⟩)
  exact AnyZ.sorted_in Tryz.sorted81 Fence.wide 5 trivial trivial trivial trivial rfl (by omega) (Tryz.sorts81 _) (enters_of Tryz.func102 (by kernel_rfl) rfl) 103 #[.pointer (some ⟨w.heap.size, 0, none⟩)] trivial (enters_of Tryz.func103 (by kernel_rfl) rfl) _ _ hmax hbytes _ hseq

set_option maxHeartbeats 1000000 in
/-- **.. AND FOR THE nil MAP: nil.** -/
theorem Tryz.slices_Sorted_keys_nil_81_82 (w : World) :
    CallsIn Fence.wide 5 Tryz.prog 81 #[.func (.func 103) #[] #[.pointer (some ⟨w.heap.size, 0, none⟩)]] (w.alloc (.cells #[.map none] 88)) fun e w' => ∃ (v : Value) (ss : List (List UInt8)), e = .returned v ∧ ss = [] ∧
      w'.ownsRow (w.alloc (.cells #[.map none] 88)).heap.size 9 1 v ss.length ((ss.mergeSort (fun x y => decide (x ≤ y))).map encStr) ∧ (v = .slice none 0 0 ↔ ss = []) ∧ Below (w.alloc (.cells #[.map none] 88)).heap.size (w.alloc (.cells #[.map none] 88)) w' := by
  have hseq : SeqGives Fence.wide 2 Tryz.prog 103 #[.pointer (some ⟨w.heap.size, 0, none⟩)] encStr (fun ss : List (List UInt8) => ss = []) 0 (w.alloc (.cells #[.map none] 88)) :=
    AnyZ.keys_gives_nil (ρ := Tryz.keys82_ren) { Tryz.keys82 with } Fence.wide _ trivial rfl w.heap.size _ (by simp) (by simp)
  exact AnyZ.sorted_in Tryz.sorted81 Fence.wide 5 trivial trivial trivial trivial rfl (by omega) (Tryz.sorts81 _) (enters_of Tryz.func102 (by kernel_rfl) rfl) 103 #[.pointer (some ⟨w.heap.size, 0, none⟩)] trivial (enters_of Tryz.func103 (by kernel_rfl) rfl) _ 0 (Nat.zero_le _) (by omega) _ hseq

-- THE CALLER's WALK over 'slices.Sorted(maps.Keys(m))' (inside '(callsIn_wide (n := 6)).1'; 'have hfK : Fence.wide.fn 82 := trivial', 'have hfS : Fence.wide.fn 81 := trivial' ahead): THE TWO ARMS TO PASTE:
--   gi_wp2_with (first
--     | (gi_at_call 82; refine (Tryz.maps_Keys_82 _ _).mono ?_; rintro e w' ⟨rfl, rfl⟩)
--     | (gi_at_call 81; refine (Tryz.slices_Sorted_keys_81_82 b nn D0 R w hown hmax hbytes).mono ?_; rintro e w' ⟨v, ss, rfl, hS, hrow, hnil, hb⟩))


end Go.Proofs
